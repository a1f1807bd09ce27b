/-
  A part of the proof that a law answers true: lemmas of a symbolic walk, plain functions, or contracts of the functions walked (B2, B3, Pm26, Pm27, Pm28, B4, B5, B6, B7, B8, B9, Sx44, Sx31). Conditions: none.
-/
import Derived.Test.YtagedjfjcnemoaaGreatPart13
import Derived.Test.YtagedjfjcnemoaaGreatPart14
import Derived.Test.YtagedjfjcnemoaaGreatPart11
import Derived.Test.YtagedjfjcnemoaaGreatPart07
import Derived.WideKeyRuns
set_option maxRecDepth 100000
set_option linter.unusedVariables false
set_option linter.unusedSimpArgs false
namespace Go.Proofs
open Go.Sx

structure Sem (r:Rd) (os:List Thg) (ms:List Mom) (x:Thg → Int) (c:Mom → Int):Prop where
 obj:∀ o ∈ os,0≤x o∧x o≤capF r o
 mom:∀ m ∈ ms,-1000000≤c m∧c m≤1000000
 sid:∀ m ∈ ms,(sideF r m).lo≤c m∧c m≤(sideF r m).hi
 wgh:∀ w ∈ r.ws,x w.o - c (wMom w)≤w.shown+(findD r.bs w.bal).half∧c (wMom w) - x w.o≤(findD r.bs w.bal).half - w.shown
 chk:∀ k ∈ r.cs,c (cMom k)≤k.mass - k.shown+(findD r.bs k.bal).half∧-c (cMom k)≤k.shown+(findD r.bs k.bal).half - k.mass
 drf:∀ a ∈ ms,∀ b ∈ ms,a.bal=b.bal → a.tick < b.tick → c b - c a≤(findD r.bs a.bal).dr * (b.tick - a.tick)∧c a - c b≤(findD r.bs a.bal).dr * (b.tick - a.tick)
 cvr:∀ o ∈ os,∀ q ∈ os,(o.st=2∧q={ o with st:=1 } ∨ o.st=4∧q={ o with st:=3 }) → x o≤x q

theorem rd_sys {r:Rd} (h:RdOK r) {more:List Mom} (hl:more.length≤2) (hm:∀ m ∈ more,momOK r m=true):SysOK (boxR r more) (lnkR r more):=by
 obtain ⟨h1,h2⟩:=rdR_len h hl
 exact⟨h1,h2,boxR_ok h more,lnkR_proper h hm⟩

theorem drf_all {bs:List Bal} {ms:List Mom} {c:Mom → Int} (hi:Inc momLt ms)
  (h:∀ (j:Nat) (a b:Mom),ms[j]? = some a → ms[j+1]? = some b → a.bal=b.bal → c b - c a≤(findD bs a.bal).dr * (b.tick - a.tick)∧c a - c b≤(findD bs a.bal).dr * (b.tick - a.tick)) :
  ∀ (d i:Nat) (a b:Mom),ms[i]? = some a → ms[i+1+d]? = some b → a.bal=b.bal → c b - c a≤(findD bs a.bal).dr * (b.tick - a.tick)∧c a - c b≤(findD bs a.bal).dr * (b.tick - a.tick)
 | 0,i,a,b,ha,hb,hab=>h i a b ha hb hab
 | d+1,i,a,b,ha,hb,hab=>by
  have hlt:i+1+d < ms.length:=by have:=(List.getElem?_eq_some_iff.1 hb).1; omega
  obtain ⟨k,hk⟩:∃ k,ms[i+1+d]? = some k:=⟨_,List.getElem?_eq_getElem hlt⟩
  have h1:=inc_get hi (show i < i+1+d by omega) ha hk
  have h2:=inc_get hi (show i+1+d < i+1+(d+1) by omega) hk hb
  simp [momLt] at h1 h2
  have hak:a.bal=k.bal:=by omega
  have hkb:k.bal=b.bal:=by omega
  obtain ⟨p1,p2⟩:=drf_all hi h d i a k ha hk hak
  obtain ⟨q1,q2⟩:=h (i+1+d) k b hk hb hkb
  rw [← hak] at q1 q2
  have e:(findD bs a.bal).dr * (b.tick - a.tick)=(findD bs a.bal).dr * (k.tick - a.tick)+(findD bs a.bal).dr * (b.tick - k.tick):=by
   rw [← Int.mul_add]; congr 1; omega
  omega

theorem drfLs_of {bs:List Bal} {k:Nat} {a b:Mom}:∀ {ms:List Mom} {i j:Nat},ms[j]? = some a → ms[j+1]? = some b → a.bal=b.bal →
  (⟨k+((i+j:Nat):Int),k+((i+j:Nat):Int)+1,min ((findD bs a.bal).dr * (b.tick - a.tick)) 2000000,0⟩:Lnk) ∈ drfLs bs k i ms∧(⟨k+((i+j:Nat):Int)+1,k+((i+j:Nat):Int),min ((findD bs a.bal).dr * (b.tick - a.tick)) 2000000,0⟩:Lnk) ∈ drfLs bs k i ms
 | [],_,_,h,_,_=>by simp at h
 | [_],_,j,_,h,_=>by simp at h
 | x :: y :: r,i,0,h1,h2,hab=>by
  simp at h1 h2
  subst h1 h2
  unfold drfLs
  have hb:(x.bal == y.bal)=true:=by simpa using hab
  rw [hb]
  simp
 | x :: y :: r,i,j+1,h1,h2,hab=>by
  unfold drfLs
  have:=drfLs_of (bs:=bs) (k:=k) (ms:=y :: r) (i:=i+1) (j:=j) (by simpa using h1) (by simpa using h2) hab
  rw [show i+(j+1)=i+1+j by omega]
  exact⟨List.mem_append.2 (.inr this.1),List.mem_append.2 (.inr this.2)⟩

theorem pnt_sem {r:Rd} (h:RdOK r) {more:List Mom} (hm:∀ m ∈ more,momOK r m=true) {p:List Int} :
  Pnt (boxR r more) (lnkR r more) p ↔ p.length=(objsF r).length+(momsF r more).length ∧
   Sem r (objsF r) (momsF r more) (fun o=>atF p (plF (objsF r) o)) (fun m=>atF p ((objsF r).length+plF (momsF r more) m)):=by
 have hwO:∀ w ∈ r.ws,w.o ∈ objsF r:=fun w hw=>objsF_mem.2 ⟨w,hw,rfl⟩
 have hwM:∀ w ∈ r.ws,wMom w ∈ momsF r more:=fun w hw=>momsF_mem.2 (.inl ⟨w,hw,rfl⟩)
 have hcM:∀ c ∈ r.cs,cMom c ∈ momsF r more:=fun c hc=>momsF_mem.2 (.inr (.inl ⟨c,hc,rfl⟩))
 have hoN:(objsF r).Nodup:=(distS_inc thgLt_ok _).nodup thgLt_ok.irr
 have hmI:Inc momLt (momsF r more):=distS_inc momLt_ok _
 have hmN:(momsF r more).Nodup:=hmI.nodup momLt_ok.irr
 have hbl:=boxR_len r more
 have hlk:lnkR r more=linksR r (objsF r) (momsF r more):=rfl
 have hbx:boxR r more=boxesR r (objsF r) (momsF r more):=rfl
 generalize objsF r=os at *
 generalize momsF r more=ms at *
 have neg1:atF p (-1)=0:=rfl
 have hobj:∀ o ∈ os,∃ i:Nat,os[i]? = some o∧plF os o=i∧i < os.length∧atF p (plF os o)=p.getD i 0:=by
  intro o ho
  obtain ⟨e,l⟩:=plF_mem ho
  refine⟨_,plF_get e,e,l, ?_⟩
  rw [e]; unfold atF; rw [if_neg (by omega),Int.toNat_natCast]
 have hmom:∀ m ∈ ms,∃ i:Nat,ms[i]? = some m∧plF ms m=i∧i < ms.length∧atF p (os.length+plF ms m)=p.getD (os.length+i) 0:=by
  intro m hm
  obtain ⟨e,l⟩:=plF_mem hm
  refine⟨_,plF_get e,e,l, ?_⟩
  rw [e]; unfold atF; rw [if_neg (by omega)]; congr 1
 constructor
 ·rintro ⟨h1,h2,h3⟩
  rw [hbl] at h1
  rw [hlk] at h3
  unfold linksR at h3
  refine⟨h1, ?_⟩
  have hD:∀ (j:Nat) (a b:Mom),ms[j]? = some a → ms[j+1]? = some b → a.bal=b.bal → atF p (os.length+plF ms b) - atF p (os.length+plF ms a)≤(findD r.bs a.bal).dr * (b.tick - a.tick)∧atF p (os.length+plF ms a) - atF p (os.length+plF ms b)≤(findD r.bs a.bal).dr * (b.tick - a.tick):=by
   intro j a b ha hb hab
   obtain ⟨d1,d2⟩:=drfLs_of (bs:=r.bs) (k:=os.length) (i:=0) ha hb hab
   have k1:=h3 _ (List.mem_append.2 (.inr (List.mem_append.2 (.inr (List.mem_append.2 (.inr (List.mem_append.2 (.inl d1))))))))
   have k2:=h3 _ (List.mem_append.2 (.inr (List.mem_append.2 (.inr (List.mem_append.2 (.inr (List.mem_append.2 (.inl d2))))))))
   rw [Nat.zero_add] at k1 k2
   rw [plF_at hmN ha,plF_at hmN hb]
   try dsimp only at k1 k2
   rw [show (os.length:Int)+((j+1:Nat):Int)=os.length+(j:Int)+1 by omega]
   omega
  refine⟨?_, ?_, ?_, ?_, ?_, ?_, ?_⟩
  ·intro o ho
   obtain ⟨i,a1,a2,a3,a4⟩:=hobj o ho
   have:=h2 i (0,capF r o) (by
    rw [hbx]; unfold boxesR
    rw [List.getElem?_append_left (by rw [List.length_map]; exact a3),List.getElem?_map,a1]; rfl)
   try dsimp only at this ⊢
   rw [a4]; exact this
  ·intro m hm'
   obtain ⟨i,a1,a2,a3,a4⟩:=hmom m hm'
   have:=h2 (os.length+i) (-1000000,1000000) (by
    rw [hbx]; unfold boxesR
    rw [List.getElem?_append_right (by rw [List.length_map]; omega),List.length_map,Nat.add_sub_cancel_left,List.getElem?_map,a1]; rfl)
   try dsimp only at this ⊢
   rw [a4]; exact this
  ·intro m hm'
   have k1:=h3 ⟨-1,os.length+plF ms m,(sideF r m).hi,(sideF r m).hiI⟩ (List.mem_append.2 (.inr (List.mem_append.2 (.inr (List.mem_append.2 (.inl (List.mem_flatMap.2 ⟨m,hm',by simp [momLs]⟩)))))))
   have k2:=h3 ⟨os.length+plF ms m,-1,-(sideF r m).lo,(sideF r m).loI⟩ (List.mem_append.2 (.inr (List.mem_append.2 (.inr (List.mem_append.2 (.inl (List.mem_flatMap.2 ⟨m,hm',by simp [momLs]⟩)))))))
   simp only [neg1] at k1 k2
   try dsimp only
   omega
  ·intro w hw
   have hw':=(sortK_perm Wgh.id r.ws).mem_iff.2 hw
   have k1:=h3 ⟨os.length+plF ms (wMom w),plF os w.o,w.shown+(findD r.bs w.bal).half,w.id⟩ (List.mem_append.2 (.inl (List.mem_flatMap.2 ⟨w,hw',by simp [wghLs]⟩)))
   have k2:=h3 ⟨plF os w.o,os.length+plF ms (wMom w),(findD r.bs w.bal).half - w.shown,w.id⟩ (List.mem_append.2 (.inl (List.mem_flatMap.2 ⟨w,hw',by simp [wghLs]⟩)))
   exact⟨k1,k2⟩
  ·intro k hk
   have hk':=(sortK_perm Chk.id r.cs).mem_iff.2 hk
   have k1:=h3 ⟨-1,os.length+plF ms (cMom k),k.mass - k.shown+(findD r.bs k.bal).half,k.id⟩ (List.mem_append.2 (.inr (List.mem_append.2 (.inl (List.mem_flatMap.2 ⟨k,hk',by simp [chkLs]⟩)))))
   have k2:=h3 ⟨os.length+plF ms (cMom k),-1,k.shown+(findD r.bs k.bal).half - k.mass,k.id⟩ (List.mem_append.2 (.inr (List.mem_append.2 (.inl (List.mem_flatMap.2 ⟨k,hk',by simp [chkLs]⟩)))))
   simp only [neg1] at k1 k2
   try dsimp only
   omega
  ·intro a ha b hb hab ht
   obtain ⟨i,a1,_,_,_⟩:=hmom a ha
   obtain ⟨j,b1,_,_,_⟩:=hmom b hb
   have hij:i < j:=by
    rcases Nat.lt_trichotomy i j with hlt | rfl | hlt
    ·exact hlt
    ·rw [a1] at b1; cases b1; omega
    ·have:=inc_get hmI hlt b1 a1
     simp [momLt] at this; omega
   have:=drf_all (bs:=r.bs) (c:=fun m=>atF p (os.length+plF ms m)) hmI hD (j - (i+1)) i a b a1 (by rw [show i+1+(j - (i+1))=j by omega]; exact b1) hab
   exact this
  ·intro o ho q hq hoq
   rcases hoq with ⟨hs,rfl⟩ | ⟨hs,rfl⟩
   ·have k1:=h3 ⟨plF os { o with st:=1 },plF os o,0,0⟩ (List.mem_append.2 (.inr (List.mem_append.2 (.inr (List.mem_append.2 (.inr (List.mem_append.2 (.inr (List.mem_append.2 (.inl (List.mem_flatMap.2 ⟨o,ho,by
     have:(o.st == 2 && os.contains { o with st:=1 })=true:=by simp [hs,hq]
     unfold cvrLs; rw [this]; simp⟩)))))))))))
    try dsimp only at k1 ⊢
    omega
   ·have k1:=h3 ⟨plF os { o with st:=3 },plF os o,0,0⟩ (List.mem_append.2 (.inr (List.mem_append.2 (.inr (List.mem_append.2 (.inr (List.mem_append.2 (.inr (List.mem_append.2 (.inr (List.mem_flatMap.2 ⟨o,ho,by
     have:(o.st == 4 && os.contains { o with st:=3 })=true:=by simp [hs,hq]
     unfold cvrLs; rw [this]; simp⟩)))))))))))
    try dsimp only at k1 ⊢
    omega
 ·rintro ⟨h1,hS⟩
  refine⟨by rw [hbl]; exact h1, ?_, ?_⟩
  ·intro v b hb
   rw [hbx] at hb
   unfold boxesR at hb
   by_cases hv:v < os.length
   ·rw [List.getElem?_append_left (by rw [List.length_map]; exact hv),List.getElem?_map,List.getElem?_eq_getElem hv] at hb
    cases hb
    have:=hS.obj os[v] (List.getElem_mem hv)
    have e:=plF_at hoN (List.getElem?_eq_getElem hv)
    simp only [e] at this
    unfold atF at this
    rw [if_neg (by omega),Int.toNat_natCast] at this
    exact this
   ·rw [List.getElem?_append_right (by rw [List.length_map]; omega),List.length_map,List.getElem?_map] at hb
    obtain ⟨m,hm1,hm2⟩:=Option.map_eq_some_iff.1 hb
    subst hm2
    obtain ⟨hlt,rfl⟩:=List.getElem?_eq_some_iff.1 hm1
    have:=hS.mom _ (List.getElem_mem hlt)
    have e:=plF_at hmN hm1
    simp only [e] at this
    unfold atF at this
    rw [if_neg (by omega),show ((os.length:Int)+((v - os.length:Nat):Int)).toNat=v by omega] at this
    exact this
  ·intro l hl
   rw [hlk] at hl
   unfold linksR at hl
   simp only [List.mem_append,List.mem_flatMap] at hl
   rcases hl with ⟨w,hw,hl⟩ | ⟨c,hc,hl⟩ | ⟨m,hmm,hl⟩ | hl | ⟨o,ho,hl⟩ | ⟨o,ho,hl⟩
   ·have hw:=(sortK_perm Wgh.id r.ws).mem_iff.1 hw
    have:=hS.wgh w hw
    simp only [wghLs,List.mem_cons,List.not_mem_nil,or_false] at hl
    rcases hl with rfl | rfl
    ·exact this.1
    ·exact this.2
   ·have hc:=(sortK_perm Chk.id r.cs).mem_iff.1 hc
    have:=hS.chk c hc
    simp only [chkLs,List.mem_cons,List.not_mem_nil,or_false] at hl
    rcases hl with rfl | rfl
    ·simp only [neg1]
     try dsimp only at this
     omega
    ·simp only [neg1]
     try dsimp only at this
     omega
   ·have:=hS.sid m hmm
    simp only [momLs,List.mem_cons,List.not_mem_nil,or_false] at hl
    rcases hl with rfl | rfl
    ·simp only [neg1]
     try dsimp only at this
     omega
    ·simp only [neg1]
     try dsimp only at this
     omega
   ·obtain ⟨j,a,b,ha,hb,hab,hl⟩:=drfLs_mem hl
    have hlt:=inc_get hmI (Nat.lt_succ_self j) ha hb
    simp [momLt] at hlt
    have am:=List.mem_of_getElem? ha
    have bm:=List.mem_of_getElem? hb
    have d:=hS.drf a am b bm hab (by omega)
    have m1:=hS.mom a am
    have m2:=hS.mom b bm
    have ea:=plF_at hmN ha
    have eb:=plF_at hmN hb
    simp only [ea,eb] at d m1 m2
    rw [show (os.length:Int)+((j+1:Nat):Int)=os.length+(j:Int)+1 by omega] at d m2
    rw [Nat.zero_add] at hl
    generalize (findD r.bs a.bal).dr * (b.tick - a.tick)=z at *
    rcases hl with rfl | rfl
    ·dsimp only
     omega
    ·dsimp only
     omega
   ·unfold cvrLs at hl
    cases hc:(o.st == 2 && os.contains { o with st:=1 }) with
    | false=>rw [hc] at hl; cases hl
    | true =>
     rw [hc] at hl
     simp only [cond_true,List.mem_cons,List.not_mem_nil,or_false] at hl
     subst hl
     simp only [Bool.and_eq_true,beq_iff_eq,List.contains_iff_mem] at hc
     have:=hS.cvr o ho _ hc.2 (.inl ⟨hc.1,rfl⟩)
     try dsimp only at this ⊢
     omega
   ·unfold cvrLs at hl
    cases hc:(o.st == 4 && os.contains { o with st:=3 }) with
    | false=>rw [hc] at hl; cases hl
    | true =>
     rw [hc] at hl
     simp only [cond_true,List.mem_cons,List.not_mem_nil,or_false] at hl
     subst hl
     simp only [Bool.and_eq_true,beq_iff_eq,List.contains_iff_mem] at hc
     have:=hS.cvr o ho _ hc.2 (.inr ⟨hc.1,rfl⟩)
     try dsimp only at this ⊢
     omega

end Go.Proofs

namespace Go.Proofs
open Go.Sx

abbrev SemR (r:Rd) (more:List Mom) (x:Thg → Int) (c:Mom → Int):Prop:=Sem r (objsF r) (momsF r more) x c

theorem Sem.congr {r:Rd} {more:List Mom} {x x':Thg → Int} {c c':Mom → Int} (h:SemR r more x c) (hx:∀ o ∈ objsF r,x' o=x o) (hc:∀ m ∈ momsF r more,c' m=c m):SemR r more x' c' where
 obj o ho:=by rw [hx o ho]; exact h.obj o ho
 mom m hm:=by rw [hc m hm]; exact h.mom m hm
 sid m hm:=by rw [hc m hm]; exact h.sid m hm
 wgh w hw:=by
  rw [hx _ (objsF_mem.2 ⟨w,hw,rfl⟩),hc _ (momsF_mem.2 (.inl ⟨w,hw,rfl⟩))]; exact h.wgh w hw
 chk k hk:=by rw [hc _ (momsF_mem.2 (.inr (.inl ⟨k,hk,rfl⟩)))]; exact h.chk k hk
 drf a ha b hb hab ht:=by rw [hc a ha,hc b hb]; exact h.drf a ha b hb hab ht
 cvr o ho q hq hoq:=by rw [hx o ho,hx q hq]; exact h.cvr o ho q hq hoq

theorem objsF_nodup (r:Rd):(objsF r).Nodup:=(distS_inc thgLt_ok _).nodup thgLt_ok.irr
theorem momsF_nodup (r:Rd) (more:List Mom):(momsF r more).Nodup:=(distS_inc momLt_ok _).nodup momLt_ok.irr

def pntF (r:Rd) (more:List Mom) (x:Thg → Int) (c:Mom → Int):List Int:=(objsF r).map x ++ (momsF r more).map c

theorem pntF_len (r:Rd) (more:List Mom) (x:Thg → Int) (c:Mom → Int):(pntF r more x c).length=(objsF r).length+(momsF r more).length:=by simp [pntF]

theorem pntF_obj {r:Rd} {more:List Mom} {x:Thg → Int} {c:Mom → Int} {o:Thg} (ho:o ∈ objsF r):atF (pntF r more x c) (plF (objsF r) o)=x o:=by
 obtain ⟨e,l⟩:=plF_mem ho
 have g:=plF_get e
 rw [e]; unfold atF pntF
 rw [if_neg (by omega),Int.toNat_natCast,List.getD_eq_getElem?_getD,List.getElem?_append_left (by rw [List.length_map]; exact l),List.getElem?_map,g]; rfl

theorem pntF_mom {r:Rd} {more:List Mom} {x:Thg → Int} {c:Mom → Int} {m:Mom} (hm:m ∈ momsF r more):atF (pntF r more x c) ((objsF r).length+plF (momsF r more) m)=c m:=by
 obtain ⟨e,l⟩:=plF_mem hm
 have g:=plF_get e
 rw [e]; unfold atF pntF
 rw [if_neg (by omega),show (((objsF r).length:Int)+((momsF r more).idxOf m:Nat)).toNat=(objsF r).length+(momsF r more).idxOf m by omega,List.getD_eq_getElem?_getD,List.getElem?_append_right (by rw [List.length_map]; omega),List.length_map,
  Nat.add_sub_cancel_left,List.getElem?_map,g]; rfl

theorem sem_pnt {r:Rd} (h:RdOK r) {more:List Mom} (hm:∀ m ∈ more,momOK r m=true) {x:Thg → Int} {c:Mom → Int}:SemR r more x c ↔ Pnt (boxR r more) (lnkR r more) (pntF r more x c):=by
 constructor
 ·intro hS
  exact (pnt_sem h hm).2 ⟨pntF_len ..,hS.congr (fun o ho=>pntF_obj ho) (fun m hm=>pntF_mom hm)⟩
 ·intro hP
  exact Sem.congr ((pnt_sem h hm).1 hP).2 (fun o ho=>(pntF_obj ho).symm) (fun m hm=>(pntF_mom hm).symm)

theorem calm_sem {r:Rd} (h:RdOK r) {more:List Mom} (hl:more.length≤2) (hm:∀ m ∈ more,momOK r m=true):Calm (boxR r more) (lnkR r more) 0 ↔ ∃ x c,SemR r more x c:=by
 rw [calm_pnt (rd_sys h hl hm)]
 constructor
 ·rintro ⟨p,hp⟩
  exact⟨_,_,((pnt_sem h hm).1 hp).2⟩
 ·rintro ⟨x,c,hS⟩
  exact⟨_,(sem_pnt h hm).1 hS⟩

inductive Var where
 | zero
 | obj (o:Thg)
 | mom (m:Mom)

def Var.val (x:Thg → Int) (c:Mom → Int):Var → Int
 | .zero=>0
 | .obj o=>x o
 | .mom m=>c m

def Var.pl (r:Rd) (more:List Mom):Var → Int
 | .zero=>-1
 | .obj o=>plF (objsF r) o
 | .mom m=>(objsF r).length+plF (momsF r more) m

def Var.isIn (r:Rd) (more:List Mom):Var → Prop
 | .zero=>True
 | .obj o=>o ∈ objsF r
 | .mom m=>m ∈ momsF r more

theorem Var.bd {r:Rd} {more:List Mom}:∀ {v:Var},v.isIn r more → -1≤v.pl r more∧v.pl r more < (boxR r more).length
 | .zero,_=>by simp only [Var.pl]; omega
 | .obj o,h=>by
  obtain ⟨e,l⟩:=plF_mem (show o ∈ objsF r from h)
  rw [boxR_len]; simp only [Var.pl]; omega
 | .mom m,h=>by
  obtain ⟨e,l⟩:=plF_mem (show m ∈ momsF r more from h)
  rw [boxR_len]; simp only [Var.pl]; omega

theorem Var.at_pnt {r:Rd} {more:List Mom} {x:Thg → Int} {c:Mom → Int}:∀ {v:Var},v.isIn r more → atF (pntF r more x c) (v.pl r more)=v.val x c
 | .zero,_=>rfl
 | .obj _,h=>pntF_obj h
 | .mom _,h=>pntF_mom h

theorem Var.val_at {r:Rd} {more:List Mom} {p:List Int}:∀ {v:Var},atF p (v.pl r more)=v.val (fun o=>atF p (plF (objsF r) o)) (fun m=>atF p ((objsF r).length+plF (momsF r more) m))
 | .zero=>rfl
 | .obj _=>rfl
 | .mom _=>rfl

abbrev mostR (r:Rd) (more:List Mom) (a b:Int):Int:=mostF (boxR r more).length (graphF (boxR r more) (lnkR r more) 0) a b

theorem range_up {r:Rd} (h:RdOK r) {more:List Mom} (hl:more.length≤2) (hm:∀ m ∈ more,momOK r m=true) {a b:Var} (ha:a.isIn r more) (hb:b.isIn r more) {x:Thg → Int} {c:Mom → Int} (hS:SemR r more x c) :
  b.val x c - a.val x c≤mostR r more (a.pl r more) (b.pl r more):=by
 have:=most_up (rd_sys h hl hm) ((sem_pnt h hm).1 hS) (Var.bd ha) (Var.bd hb)
 rw [Var.at_pnt ha,Var.at_pnt hb] at this
 exact this

theorem range_att {r:Rd} (h:RdOK r) {more:List Mom} (hl:more.length≤2) (hm:∀ m ∈ more,momOK r m=true) (hc:Calm (boxR r more) (lnkR r more) 0) {a b:Var} (ha:a.isIn r more) (hb:b.isIn r more) :
  ∃ x c,SemR r more x c∧b.val x c - a.val x c=mostR r more (a.pl r more) (b.pl r more):=by
 obtain ⟨p,hp,he⟩:=most_att2 (rd_sys h hl hm) hc (Var.bd ha) (Var.bd hb)
 exact⟨_,_,((pnt_sem h hm).1 hp).2,by rw [← Var.val_at,← Var.val_at]; exact he⟩

theorem range_sem {r:Rd} (h:RdOK r) {more:List Mom} (hl:more.length≤2) (hm:∀ m ∈ more,momOK r m=true) (hc:Calm (boxR r more) (lnkR r more) 0) {a b:Var} (ha:a.isIn r more) (hb:b.isIn r more) :
  (∀ x c,SemR r more x c → -mostR r more (b.pl r more) (a.pl r more)≤b.val x c - a.val x c∧b.val x c - a.val x c≤mostR r more (a.pl r more) (b.pl r more)) ∧
  (∃ x c,SemR r more x c∧b.val x c - a.val x c=mostR r more (a.pl r more) (b.pl r more))∧(∃ x c,SemR r more x c∧b.val x c - a.val x c=-mostR r more (b.pl r more) (a.pl r more)):=by
 refine⟨fun x c hS=>?_,range_att h hl hm hc ha hb, ?_⟩
 ·have h1:=range_up h hl hm ha hb hS
  have h2:=range_up h hl hm hb ha hS
  omega
 ·obtain ⟨x,c,hS,he⟩:=range_att h hl hm hc hb ha
  exact⟨x,c,hS,by omega⟩

instance (bs:List (Int × Int)) (ls:List Lnk):Decidable (Calm bs ls 0):=inferInstanceAs (Decidable (_=_))

def betweenF (bs:List (Int × Int)) (ls:List Lnk) (a b:Int):(Int × Int) × Int :=
 if Calm bs ls 0 then ((-mostF bs.length (graphF bs ls 0) b a,mostF bs.length (graphF bs ls 0) a b),0) else ((0,0),9)

def massV (r:Rd) (o:Thg):(Int × Int) × Int:=if o ∈ objsF r then betweenF (boxR r []) (lnkR r []) (-1) (plF (objsF r) o) else ((0,0),5)
def massF (r:Rd) (o:Thg):(Int × Int) × Int:=if checkR r=0 then massV r o else ((0,0),checkR r)
def lossF (r:Rd) (a b:Thg):(Int × Int) × Int:=if checkR r=0 then (if a ∈ objsF r∧b ∈ objsF r then betweenF (boxR r []) (lnkR r []) (plF (objsF r) b) (plF (objsF r) a) else ((0,0),5)) else ((0,0),checkR r)
def driftedF (r:Rd) (m:Mom):(Int × Int) × Int :=
 if checkR r=0 then (if momOK r m=true then betweenF (boxR r [m]) (lnkR r [m]) (-1) ((objsF r).length+plF (momsF r [m]) m) else ((0,0),1)) else ((0,0),checkR r)
def changeF (r:Rd) (bal lo hi:Int):(Int × Int) × Int :=
 if checkR r=0 then (if momOK r ⟨bal,lo⟩=true∧momOK r ⟨bal,hi⟩=true∧lo≤hi then
  betweenF (boxR r [⟨bal,lo⟩,⟨bal,hi⟩]) (lnkR r [⟨bal,lo⟩,⟨bal,hi⟩]) ((objsF r).length+plF (momsF r [⟨bal,lo⟩,⟨bal,hi⟩]) ⟨bal,lo⟩) ((objsF r).length+plF (momsF r [⟨bal,lo⟩,⟨bal,hi⟩]) ⟨bal,hi⟩) else ((0,0),1)) else ((0,0),checkR r)
end Go.Proofs

/-
  Plain lemmas,part 26: readings in another order; capacities; which numbers there are. Conditions: none; definitions and plain lemmas.
-/
namespace Go
namespace Proofs

theorem cap_iff {bs:List Bal} {o:Thg} {v:Int}:∀ {ws:List Wgh} {n:Int},v≤ws.foldl (capStep bs o) n ↔ v≤n∧∀ w ∈ ws,w.o=o → v≤(findD bs w.bal).cap
  | [],n=>by simp
  | w :: r,n=>by
    simp only [List.foldl_cons,List.mem_cons,forall_eq_or_imp]
    rw [cap_iff (ws:=r)]
    unfold capStep
    cases hb:w.o == o with
    | true =>
      have hb:w.o=o:=by simpa using hb
      simp only [cond_true]
      constructor
      · rintro ⟨h1,h2⟩; exact⟨by omega,fun _=>by omega,h2⟩
      · rintro ⟨h1,h2,h3⟩; have:=h2 hb; exact⟨by omega,h3⟩
    | false =>
      have hb:w.o ≠ o:=by simpa using hb
      simp only [cond_false]
      constructor
      · rintro ⟨h1,h2⟩; exact⟨h1,fun h=>absurd h hb,h2⟩
      · rintro ⟨h1,_,h3⟩; exact⟨h1,h3⟩

theorem capF_iff {r:Rd} {o:Thg} {v:Int}:v≤capF r o ↔ v≤10000000∧∀ w ∈ r.ws,w.o=o → v≤(findD r.bs w.bal).cap:=cap_iff

theorem findB_iff {bs:List Bal} (hd:(bs.map Bal.id).Nodup) {b:Bal} {id:Int}:findB bs id=some b ↔ b ∈ bs∧b.id=id:=by
  constructor
  · intro h
    refine⟨List.mem_of_find?_eq_some h, ?_⟩
    have:=List.find?_some h
    simpa using this
  · rintro ⟨hb,rfl⟩
    cases hf:findB bs b.id with
    | none =>
      have:=List.find?_eq_none.1 hf b hb
      simp at this
    | some b' =>
      have h1:=List.mem_of_find?_eq_some hf
      have h2:b'.id=b.id:=by have:=List.find?_some hf; simpa using this
      obtain ⟨i,hi,rfl⟩:=List.mem_iff_getElem.1 hb
      obtain ⟨j,hj,rfl⟩:=List.mem_iff_getElem.1 h1
      have hp:=List.pairwise_iff_getElem.1 (List.pairwise_map.1 hd)
      rcases Nat.lt_trichotomy i j with hlt | rfl | hlt
      · exact absurd h2.symm (hp i j hi hj hlt)
      · rfl
      · exact absurd h2 (hp j i hj hi hlt)

theorem RdOK.cN {r:Rd} (h:RdOK r):(r.cs.map Chk.id).Nodup:=(List.nodup_append.1 h.ids).1
theorem RdOK.nN {r:Rd} (h:RdOK r):(r.ns.map Ntc.id).Nodup:=(List.nodup_append.1 (List.nodup_append.1 h.ids).2.1).1
theorem RdOK.wN {r:Rd} (h:RdOK r):(r.ws.map Wgh.id).Nodup:=(List.nodup_append.1 (List.nodup_append.1 h.ids).2.1).2.1

def allIds (r:Rd):List Int:=r.cs.map Chk.id ++ (r.ns.map Ntc.id ++ r.ws.map Wgh.id)
def idsR (r:Rd):List Int:=distS (fun a b:Int=>decide (a < b)) (allIds r)

theorem intLt_ok:LtOK (fun a b:Int=>decide (a < b)) where
  irr x:=by simp
  tr x y z h1 h2:=by simp at *; omega
  tot x y h:=by simp; omega

def lessR (r:Rd) (ids:List Int):Rd:=⟨r.bs,r.cs.filter (fun c=>!ids.contains c.id),r.ns.filter (fun n=>!ids.contains n.id),r.ws.filter (fun w=>!ids.contains w.id)⟩

theorem less_ok {r:Rd} (h:RdOK r) (ids:List Int):RdOK (lessR r ids) where
  nb:=h.nb
  nr:=by
    have h1:=List.length_filter_le (fun c:Chk=>!ids.contains c.id) r.cs
    have h2:=List.length_filter_le (fun n:Ntc=>!ids.contains n.id) r.ns
    have h3:=List.length_filter_le (fun w:Wgh=>!ids.contains w.id) r.ws
    have:=h.nr
    show (r.cs.filter _).length+(r.ns.filter _).length+(r.ws.filter _).length≤100
    omega
  bal:=h.bal
  balN:=h.balN
  chk c hc:=h.chk c (List.mem_filter.1 hc).1
  ntc c hc:=h.ntc c (List.mem_filter.1 hc).1
  wgh c hc:=h.wgh c (List.mem_filter.1 hc).1
  ids:=by
    refine List.Nodup.sublist ?_ h.ids
    exact (List.filter_sublist.map _).append ((List.filter_sublist.map _).append (List.filter_sublist.map _))

end Proofs
end Go

/-
  Plain lemmas,part 27: the elements of two lists by their numbers,each once; merging readings. Conditions: none; definitions and plain lemmas.
-/
namespace Go
namespace Proofs

def JoinOK {α:Type} (key:α → Int) (a b:List α):Prop:=∀ x ∈ a ++ b,∀ y ∈ a ++ b,key x=key y → x=y

instance {α:Type} [DecidableEq α] (key:α → Int) (a b:List α):Decidable (JoinOK key a b):=inferInstanceAs (Decidable (∀ x ∈ a ++ b,∀ y ∈ a ++ b,key x=key y → x=y))

end Proofs
end Go

/-
  Plain lemmas,part 28: what merging gives: valid,in either order,again. Conditions: none; definitions and plain lemmas.
-/
namespace Go
namespace Proofs

end Proofs
end Go

namespace Go.Proofs
open Go.Sx

def boxW (r:Rd) (w:Wgh):List (Int × Int):=(boxR r [wMom w]).set (plF (objsF r) w.o).toNat (0,min (capF r w.o) (findD r.bs w.bal).cap)

theorem boxW_len (r:Rd) (w:Wgh):(boxW r w).length=(boxR r [wMom w]).length:=by simp [boxW]

theorem boxW_at {r:Rd} {w:Wgh} (ho:w.o ∈ objsF r):(boxR r [wMom w])[(plF (objsF r) w.o).toNat]? = some (0,capF r w.o)∧(plF (objsF r) w.o).toNat < (boxR r [wMom w]).length:=by
 obtain ⟨e,l⟩:=plF_mem ho
 have g:=plF_get e
 rw [e,Int.toNat_natCast]
 refine⟨?_,by rw [boxR_len]; omega⟩
 unfold boxR boxesR
 rw [List.getElem?_append_left (by rw [List.length_map]; exact l),List.getElem?_map,g]; rfl

theorem boxW_sys {r:Rd} (h:RdOK r) {w:Wgh} (ho:w.o ∈ objsF r) (hm:momOK r (wMom w)=true):SysOK (boxW r w) (lnkR r [wMom w]):=by
 have hs:=rd_sys h (more:=[wMom w]) (by simp) (by simpa using hm)
 refine⟨by rw [boxW_len]; exact hs.nb,hs.nl,fun b hb=>?_,fun l hl=>by rw [boxW_len]; exact hs.lnk l hl⟩
 have hcap:1≤(findD r.bs w.bal).cap:=by
  simp [momOK,wMom] at hm
  have:=valid_bd (h.findD hm.1); omega
 have hc1:0≤capF r w.o∧capF r w.o≤10000000:=by
  have:=hs.box _ (List.mem_of_getElem? (boxW_at ho).1)
  refine⟨this.1,(capF_iff.1 (Int.le_refl _)).1⟩
 rcases List.mem_or_eq_of_mem_set hb with hb | rfl
 ·exact hs.box b hb
 ·dsimp only; omega

end Go.Proofs

namespace Go.Proofs
open Go.Sx

def rangeW (r:Rd) (w:Wgh):Int × Int :=
 (-mostF (boxW r w).length (graphF (boxW r w) (lnkR r [wMom w]) 0) (plF (objsF r) w.o) ((objsF r).length+plF (momsF r [wMom w]) (wMom w)),
  mostF (boxW r w).length (graphF (boxW r w) (lnkR r [wMom w]) 0) ((objsF r).length+plF (momsF r [wMom w]) (wMom w)) (plF (objsF r) w.o))

def foreseeV (r:Rd) (w:Wgh):(Int × Int) × Int :=
 if min 10000000 ((rangeW r w).2+(findD r.bs w.bal).half) < max 0 ((rangeW r w).1 - (findD r.bs w.bal).half) then ((0,0),3)
 else ((max 0 ((rangeW r w).1 - (findD r.bs w.bal).half),min 10000000 ((rangeW r w).2+(findD r.bs w.bal).half)),0)

def foreseeF (r:Rd) (w:Wgh):(Int × Int) × Int :=
 if checkR r=0 then (if momOK r (wMom w)=true∧thgF w.o=true then (if w.o ∈ objsF r then (if Calm (boxW r w) (lnkR r [wMom w]) 0 then foreseeV r w else ((0,0),9)) else ((0,0),5)) else ((0,0),1)) else ((0,0),checkR r)

end Go.Proofs

namespace Go.Proofs
open Go.Sx

def exSc:Bal:=⟨1,2,-10,10,1,1000⟩
def exGr:Thg:=⟨1,1,0,1⟩
def exTa:Thg:=⟨1,1,0,2⟩
def exR1:Rd:=⟨[exSc],[],[],[⟨11,1,5,exGr,500⟩]⟩
def exR2:Rd:=⟨[exSc],[],[],[⟨11,1,5,exGr,500⟩,⟨13,1,5,exTa,40⟩]⟩
def exR3:Rd:=⟨[exSc],[⟨12,1,3,100,97⟩],[],[⟨11,1,5,exGr,500⟩]⟩
def exR4:Rd:=⟨[exSc],[⟨12,1,5,100,97⟩],[],[⟨11,1,5,exGr,500⟩]⟩
def exR5:Rd:=⟨[exSc],[⟨12,1,5,100,97⟩],[⟨14,1,0,9,4,30⟩],[⟨11,1,5,exGr,500⟩]⟩
def exR6:Rd:=⟨[exSc],[⟨12,1,5,100,97⟩],[⟨14,1,0,9,6,30⟩],[⟨11,1,5,exGr,500⟩]⟩
theorem exT1:massF exR1 exGr=((488,512),0):=by decide +kernel
theorem exT2:driftedF exR1 ⟨1,5⟩=((-10,10),0):=by decide +kernel
theorem exT3:foreseeF exR1 ⟨0,1,6,exGr,0⟩=((495,505),0):=by decide +kernel
theorem exT4:lossF exR2 exGr exTa=((456,464),0):=by decide +kernel
theorem exT5:driftedF exR3 ⟨1,5⟩=((-1,7),0):=by decide +kernel
theorem exT6:driftedF exR4 ⟨1,5⟩=((1,5),0):=by decide +kernel
theorem exT7:massF exR5 exGr=((502,507),0):=by decide +kernel
theorem exT8:massF exR6 exGr=((0,0),9):=by decide +kernel
theorem exT10:((idsR exR5).filter fun i=>!(decide (massV (lessR exR5 [i]) exGr=massF exR5 exGr)))=[11,12,14]:=by decide +kernel
theorem exT11:((idsR exR6).filter fun i=>decide (Calm (boxR (lessR exR6 [i]) []) (lnkR (lessR exR6 [i]) []) 0))=[12,14]:=by decide +kernel

def ptV (pt:List Int) (i:Int):Int:=if i < 0 then 0 else pt.getD i.toNat 0

def badF (pt:List Int) (l:Lnk):Bool :=
 (decide (l.f < 0) && decide (l.m < ptV pt l.t)) || ((decide (l.t < 0) && decide (ptV pt l.f < -l.m)) || (decide (0≤l.f) && (decide (0≤l.t) && decide (l.m < Go.IntKind.i64.wrap (ptV pt l.t - ptV pt l.f)))))

theorem find_two {α:Type} {p q:α → Bool} {a b:List α} (h1:∀ x ∈ a,p x=q x) (h2:(∀ x ∈ a,q x=false) → ∀ x ∈ b,p x=q x):(a ++ b).find? p=(a ++ b).find? q:=by
 rw [List.find?_append,List.find?_append]
 have e:a.find? p=a.find? q:=by
  clear h2
  induction a with
  | nil=>rfl
  | cons x r ih =>
   rw [List.find?_cons,List.find?_cons,h1 x (by simp),ih fun y hy=>h1 y (by simp [hy])]
 rw [e]
 cases hf:a.find? q with
 | some x=>rfl
 | none =>
  have hn:∀ x ∈ a,q x=false:=fun x hx=>by simpa using List.find?_eq_none.1 hf x hx
  have h3:=h2 hn
  clear h1 h2 e hf hn
  show b.find? p=b.find? q
  induction b with
  | nil=>rfl
  | cons x r ih=>rw [List.find?_cons,List.find?_cons,h3 x (by simp),ih fun y hy=>h3 y (by simp [hy])]

theorem bad_one {pt:List Int} {l:Lnk} (hm:-33554432≤l.m∧l.m≤33554432) (h:(l.f < 0∧0≤l.t) ∨ (l.t < 0∧0≤l.f)):badF pt l=violF pt l:=by
 unfold badF violF valI ptV
 rcases h with ⟨h1,h2⟩ | ⟨h1,h2⟩
 ·rw [if_neg (by omega),if_pos h1,if_neg (by omega),if_pos h1]
  simp only [decide_eq_true h1,decide_eq_false (show ¬ l.t < 0 by omega),decide_eq_false (show ¬ 0≤l.f by omega),Bool.true_and,Bool.false_and,Bool.or_false]
  exact decide_eq_decide.2 (by omega)
 ·rw [if_pos h1,if_neg (by omega),if_pos h1,if_neg (by omega)]
  simp only [decide_eq_true h1,decide_eq_false (show ¬ l.f < 0 by omega),decide_eq_false (show ¬ 0≤l.t by omega),Bool.true_and,Bool.false_and,Bool.false_or,Bool.and_false,Bool.or_false]
  exact decide_eq_decide.2 (by omega)

theorem bad_two {pt:List Int} {l:Lnk} (h1:0≤l.f) (h2:0≤l.t) (ha:-16777216≤pt.getD l.f.toNat 0∧pt.getD l.f.toNat 0≤16777216) (hb:-16777216≤pt.getD l.t.toNat 0∧pt.getD l.t.toNat 0≤16777216):badF pt l=violF pt l:=by
 unfold badF violF valI ptV
 rw [if_neg (by omega),if_neg (by omega),if_neg (by omega),if_neg (by omega)]
 simp only [decide_eq_false (show ¬ l.f < 0 by omega),decide_eq_false (show ¬ l.t < 0 by omega),decide_eq_true h1,decide_eq_true h2,Bool.true_and,Bool.false_and,Bool.false_or]
 rw [wrapId ⟨by omega,by omega⟩]
 exact decide_eq_decide.2 (by omega)

theorem bad_find {bs:List (Int × Int)} {ls:List Lnk} {pt:List Int} (hs:SysOK bs ls) (hl:pt.length=bs.length):(allF bs ls).find? (badF pt)=(allF bs ls).find? (violF pt):=by
 unfold allF
 refine find_two (fun l hlm=>?_) (fun hnone l hlm=>?_)
 ·obtain ⟨i,b,hb,h | h⟩:=boxLinks_cases hlm
  ·have:=hs.box b (List.mem_of_getElem? hb)
   subst h
   exact bad_one (by dsimp only; omega) (.inl ⟨by dsimp only; omega,by dsimp only; omega⟩)
  ·have:=hs.box b (List.mem_of_getElem? hb)
   subst h
   exact bad_one (by dsimp only; omega) (.inr ⟨by dsimp only; omega,by dsimp only; omega⟩)
 ·have hbox:∀ v:Nat,v < bs.length → -16777216≤pt.getD v 0∧pt.getD v 0≤16777216:=by
   intro v hv
   obtain ⟨b1,b2⟩:=boxLinks_has (bs:=bs) (v:=0) hv
   have hbx:=hs.box _ (List.getElem_mem hv)
   have g1:=hnone _ b1
   have g2:=hnone _ b2
   rw [Nat.zero_add] at g1 g2
   unfold violF valI at g1 g2
   dsimp only at g1 g2
   rw [if_neg (by omega),if_pos (by omega),Int.toNat_natCast,decide_eq_false_iff_not] at g1
   rw [if_pos (by omega),if_neg (by omega),Int.toNat_natCast,decide_eq_false_iff_not] at g2
   omega
  obtain ⟨h1,h2,h3,h4,h5⟩:=properF_iff.1 (hs.lnk l hlm)
  by_cases hf:l.f < 0
  ·exact bad_one (by omega) (.inl ⟨hf,by omega⟩)
  ·by_cases ht:l.t < 0
   ·exact bad_one (by omega) (.inr ⟨ht,by omega⟩)
   ·exact bad_two (by omega) (by omega) (hbox _ (by omega)) (hbox _ (by omega))

end Go.Proofs

namespace Go.Proofs
open Go.Sx

def fitsF (r:Rd) (ma sh:List Int):Int × Bool :=
 if checkR r=0∧ma.length=(objsF r).length∧sh.length=(momsF r []).length then (match (allF (boxR r []) (lnkR r [])).find? (badF (ma ++ sh)) with
  | some l=>(l.i,false)
  | none=>(0,true)) else (0,false)

theorem fits_len {r:Rd} {ma sh:List Int} (h1:ma.length=(objsF r).length) (h2:sh.length=(momsF r []).length):(ma ++ sh).length=(boxR r []).length:=by rw [boxR_len,List.length_append,h1,h2]

theorem fits_allows {r:Rd} (h:RdOK r) {ma sh:List Int} (h1:ma.length=(objsF r).length) (h2:sh.length=(momsF r []).length) :
  fitsF r ma sh=((allowsF (boxR r []) (lnkR r []) (ma ++ sh)).1.i,(allowsF (boxR r []) (lnkR r []) (ma ++ sh)).2):=by
 have hl:=fits_len h1 h2
 have hs:=rd_sys h (more:=[]) (by simp) (by simp)
 unfold fitsF allowsF
 rw [if_pos ⟨checkR_ok.2 h,h1,h2⟩,if_pos hl,bad_find hs hl]
 cases (allF (boxR r []) (lnkR r [])).find? (violF (ma ++ sh)) with
 | some l=>rfl
 | none=>rfl

theorem fits_pnt {r:Rd} (h:RdOK r) {ma sh:List Int} (h1:ma.length=(objsF r).length) (h2:sh.length=(momsF r []).length) :
  (fitsF r ma sh).2=true ↔ Pnt (boxR r []) (lnkR r []) (ma ++ sh):=by
 rw [fits_allows h h1 h2,pnt_allows (rd_sys h (more:=[]) (by simp) (by simp))]

theorem fits_sem {r:Rd} (h:RdOK r) {ma sh:List Int} (h1:ma.length=(objsF r).length) (h2:sh.length=(momsF r []).length) :
  (fitsF r ma sh).2=true ↔ SemR r [] (fun o=>atF ma (plF (objsF r) o)) (fun m=>atF sh (plF (momsF r []) m)):=by
 rw [fits_pnt h h1 h2,pnt_sem h (more:=[]) (by simp)]
 have e1:∀ o ∈ objsF r,atF (ma ++ sh) (plF (objsF r) o)=atF ma (plF (objsF r) o):=by
  intro o ho
  obtain ⟨e,l⟩:=plF_mem ho
  rw [e]; unfold atF
  rw [if_neg (by omega),if_neg (by omega),Int.toNat_natCast,List.getD_eq_getElem?_getD,List.getD_eq_getElem?_getD,List.getElem?_append_left (by omega)]
 have e2:∀ m ∈ momsF r [],atF (ma ++ sh) ((objsF r).length+plF (momsF r []) m)=atF sh (plF (momsF r []) m):=by
  intro m hm
  obtain ⟨e,l⟩:=plF_mem hm
  rw [e]; unfold atF
  rw [if_neg (by omega),if_neg (by omega),Int.toNat_natCast,show (((objsF r).length:Int)+((momsF r []).idxOf m:Nat)).toNat=ma.length+(momsF r []).idxOf m by omega,List.getD_eq_getElem?_getD,List.getD_eq_getElem?_getD,
   List.getElem?_append_right (by omega),Nat.add_sub_cancel_left]
 constructor
 ·rintro ⟨_,hS⟩
  exact hS.congr (fun o ho=>(e1 o ho).symm) (fun m hm=>(e2 m hm).symm)
 ·intro hS
  exact⟨by rw [List.length_append,h1,h2],hS.congr e1 e2⟩

def isHvy (a o:Thg):Bool:=(a == { o with st:=a.st }) && (a.st == 1 || a.st == 3)

structure Made (q:Rd) (ma sh:List Int):Prop where
 lm:ma.length=(objsF q).length
 ls:sh.length=(momsF q []).length
 obj:∀ (i:Nat) (o:Thg),(objsF q)[i]? = some o → 0≤ma.getD i 0∧ma.getD i 0≤capF q o
 hvy:∀ (i k:Nat) (o a:Thg),(objsF q)[i]? = some o → (objsF q)[k]? = some a → k < i → isHvy a o=true → ma.getD i 0≤ma.getD k 0
 mom:∀ (i:Nat) (m:Mom),(momsF q [])[i]? = some m → (sideF q m).lo≤sh.getD i 0∧sh.getD i 0≤(sideF q m).hi
 drf:∀ (j:Nat) (a b:Mom),(momsF q [])[j]? = some a → (momsF q [])[j+1]? = some b → a.bal=b.bal → sh.getD (j+1) 0 - sh.getD j 0≤(findD q.bs a.bal).dr * (b.tick - a.tick)∧sh.getD j 0 - sh.getD (j+1) 0≤(findD q.bs a.bal).dr * (b.tick - a.tick)
 wgh:∀ w ∈ q.ws,atF ma (plF (objsF q) w.o) - atF sh (plF (momsF q []) (wMom w))≤w.shown+(findD q.bs w.bal).half∧atF sh (plF (momsF q []) (wMom w)) - atF ma (plF (objsF q) w.o)≤(findD q.bs w.bal).half - w.shown
 chk:∀ k ∈ q.cs,atF sh (plF (momsF q []) (cMom k))≤k.mass - k.shown+(findD q.bs k.bal).half∧-atF sh (plF (momsF q []) (cMom k))≤k.shown+(findD q.bs k.bal).half - k.mass

theorem atF_ix {α:Type} [DecidableEq α] {l:List α} {x:α} {p:List Int} (h:x ∈ l):∃ i:Nat,l[i]? = some x∧atF p (plF l x)=p.getD i 0:=by
 obtain ⟨e,_⟩:=plF_mem h
 refine⟨_,plF_get e, ?_⟩
 rw [e]; unfold atF; rw [if_neg (by omega),Int.toNat_natCast]

theorem made_sem {q:Rd} (hq:RdOK q) {ma sh:List Int} (h:Made q ma sh):SemR q [] (fun o=>atF ma (plF (objsF q) o)) (fun m=>atF sh (plF (momsF q []) m)):=by
 have hmI:Inc momLt (momsF q []):=distS_inc momLt_ok _
 have hoI:Inc thgLt (objsF q):=distS_inc thgLt_ok _
 have hmN:=momsF_nodup q []
 have hat:∀ (j:Nat) (m:Mom),(momsF q [])[j]? = some m → atF sh (plF (momsF q []) m)=sh.getD j 0:=fun j m hj=>by
  rw [plF_at hmN hj]; unfold atF; rw [if_neg (by omega),Int.toNat_natCast]
 refine⟨fun o ho=>?_,fun m hm=>?_,fun m hm=>?_,h.wgh,h.chk,fun a ha b hb hab ht=>?_,fun o ho p hp hop=>?_⟩
 ·obtain ⟨i,hi,e⟩:=atF_ix (p:=ma) ho
  try dsimp only
  rw [e]; exact h.obj i o hi
 ·obtain ⟨i,hi,e⟩:=atF_ix (p:=sh) hm
  have h1:=h.mom i m hi
  have h2:=hq.mom (more:=[]) (by simp) hm
  simp [momOK] at h2
  obtain ⟨s1,s2,_,_⟩:=side_bd hq m h2.1
  try dsimp only
  rw [e]; omega
 ·obtain ⟨i,hi,e⟩:=atF_ix (p:=sh) hm
  try dsimp only
  rw [e]; exact h.mom i m hi
 ·obtain ⟨i,hi⟩:=List.mem_iff_getElem?.1 ha
  obtain ⟨j,hj⟩:=List.mem_iff_getElem?.1 hb
  have hij:i < j:=by
   rcases Nat.lt_trichotomy i j with hlt | rfl | hlt
   ·exact hlt
   ·rw [hi] at hj; cases hj; omega
   ·have:=inc_get hmI hlt hj hi
    simp [momLt] at this; omega
  exact drf_all (bs:=q.bs) (c:=fun m=>atF sh (plF (momsF q []) m)) hmI (fun j a b h1 h2 h3=>by rw [hat j a h1,hat (j+1) b h2]; exact h.drf j a b h1 h2 h3) (j - (i+1)) i a b hi (by rw [show i+1+(j - (i+1))=j by omega]; exact hj) hab
 ·obtain ⟨i,hi,e⟩:=atF_ix (p:=ma) ho
  obtain ⟨k,hk,e'⟩:=atF_ix (p:=ma) hp
  try dsimp only
  rw [e,e']
  have hlt:thgLt p o=true:=by
   rcases hop with ⟨h1,rfl⟩ | ⟨h1,rfl⟩ <;> (simp [thgLt]; omega)
  have hki:k < i:=by
   rcases Nat.lt_trichotomy k i with hlt' | rfl | hlt'
   ·exact hlt'
   ·rw [hi] at hk; cases hk; rw [thgLt_ok.irr] at hlt; cases hlt
   ·have:=inc_get hoI hlt' hi hk
    have:=thgLt_ok.tr _ _ _ this hlt
    rw [thgLt_ok.irr] at this; cases this
  refine h.hvy i k o p hi hk hki ?_
  rcases hop with ⟨h1,rfl⟩ | ⟨h1,rfl⟩ <;> simp [isHvy]

theorem true_law {q:Rd} (hq:RdOK q) {ma sh:List Int} (h:Made q ma sh):(fitsF q ma sh).2=true∧Calm (boxR q []) (lnkR q []) 0:=by
 have hS:=made_sem hq h
 exact⟨(fits_sem hq h.lm h.ls).2 hS,(calm_sem hq (by simp) (by simp)).2 ⟨_,_,hS⟩⟩

theorem sem_more {q:Rd} {more:List Mom} {x:Thg → Int} {c:Mom → Int} (hm:∀ m ∈ more,m ∈ momsF q []) (h:SemR q [] x c):SemR q more x c:=by
 have e:momsF q more=momsF q []:=(distS_unique momLt_ok (distS_inc momLt_ok _) fun z=>by
  show z ∈ momsF q more ↔ _
  rw [momsF_mem]
  simp only [List.mem_append,List.mem_map,List.not_mem_nil,or_false]
  constructor
  ·rintro (h | h | h)
   ·exact .inl h
   ·exact .inr h
   ·have:=momsF_mem.1 (hm z h)
    simpa using this
  ·rintro (h | h)
   ·exact .inl h
   ·exact .inr (.inl h))
 show Sem q (objsF q) (momsF q more) x c
 rw [e]; exact h

theorem true_mass {q:Rd} (hq:RdOK q) {ma sh:List Int} (h:Made q ma sh) {i:Nat} {o:Thg} (hi:(objsF q)[i]? = some o):(massF q o).2=0∧(massF q o).1.1≤ma.getD i 0∧ma.getD i 0≤(massF q o).1.2:=by
 have hS:=made_sem hq h
 have hc:=(true_law hq h).2
 have ho:=List.mem_of_getElem? hi
 obtain ⟨b1,_,_⟩:=range_sem hq (more:=[]) (by simp) (by simp) hc (a:=.zero) (b:=.obj o) trivial ho
 have t:=b1 _ _ hS
 unfold massF massV betweenF
 rw [if_pos (checkR_ok.2 hq),if_pos ho,if_pos hc]
 simp only [Var.pl,Var.val,mostR] at *
 have e:atF ma (plF (objsF q) o)=ma.getD i 0:=by rw [plF_at (objsF_nodup q) hi]; unfold atF; rw [if_neg (by omega),Int.toNat_natCast]
 rw [e] at t
 refine⟨trivial,by omega,by omega⟩

theorem true_loss {q:Rd} (hq:RdOK q) {ma sh:List Int} (h:Made q ma sh) {i k:Nat} {o p:Thg} (hi:(objsF q)[i]? = some o) (hk:(objsF q)[k]? = some p) :
  (lossF q o p).2=0∧(lossF q o p).1.1≤ma.getD i 0 - ma.getD k 0∧ma.getD i 0 - ma.getD k 0≤(lossF q o p).1.2:=by
 have hS:=made_sem hq h
 have hc:=(true_law hq h).2
 have ho:=List.mem_of_getElem? hi
 have hp:=List.mem_of_getElem? hk
 obtain ⟨b1,_,_⟩:=range_sem hq (more:=[]) (by simp) (by simp) hc (a:=.obj p) (b:=.obj o) hp ho
 have t:=b1 _ _ hS
 unfold lossF betweenF
 rw [if_pos (checkR_ok.2 hq),if_pos ⟨ho,hp⟩,if_pos hc]
 simp only [Var.pl,Var.val,mostR] at *
 have e:atF ma (plF (objsF q) o)=ma.getD i 0:=by rw [plF_at (objsF_nodup q) hi]; unfold atF; rw [if_neg (by omega),Int.toNat_natCast]
 have e':atF ma (plF (objsF q) p)=ma.getD k 0:=by rw [plF_at (objsF_nodup q) hk]; unfold atF; rw [if_neg (by omega),Int.toNat_natCast]
 rw [e,e'] at t
 refine⟨trivial,by omega,by omega⟩

theorem true_drift {q:Rd} (hq:RdOK q) {ma sh:List Int} (h:Made q ma sh) {i:Nat} {m:Mom} (hi:(momsF q [])[i]? = some m):(driftedF q m).2=0∧(driftedF q m).1.1≤sh.getD i 0∧sh.getD i 0≤(driftedF q m).1.2:=by
 have hm:=List.mem_of_getElem? hi
 have hmo:=hq.mom (more:=[]) (by simp) hm
 have hS:=sem_more (more:=[m]) (by simpa using hm) (made_sem hq h)
 have hc:=(calm_sem hq (more:=[m]) (by simp) (by simpa using hmo)).2 ⟨_,_,hS⟩
 have im:m ∈ momsF q [m]:=momsF_mem.2 (.inr (.inr (by simp)))
 obtain ⟨b1,_,_⟩:=range_sem hq (more:=[m]) (by simp) (by simpa using hmo) hc (a:=.zero) (b:=.mom m) trivial im
 have t:=b1 _ _ hS
 unfold driftedF betweenF
 rw [if_pos (checkR_ok.2 hq),if_pos hmo,if_pos hc]
 simp only [Var.pl,Var.val,mostR] at *
 have e:atF sh (plF (momsF q []) m)=sh.getD i 0:=by rw [plF_at (momsF_nodup q []) hi]; unfold atF; rw [if_neg (by omega),Int.toNat_natCast]
 rw [e] at t
 refine⟨trivial,by omega,by omega⟩

theorem true_change {q:Rd} (hq:RdOK q) {ma sh:List Int} (h:Made q ma sh) {i k:Nat} {a b:Mom} (hi:(momsF q [])[i]? = some a) (hk:(momsF q [])[k]? = some b) (hik:i≤k) (hab:a.bal=b.bal) :
  (changeF q a.bal a.tick b.tick).2=0∧(changeF q a.bal a.tick b.tick).1.1≤sh.getD k 0 - sh.getD i 0∧sh.getD k 0 - sh.getD i 0≤(changeF q a.bal a.tick b.tick).1.2:=by
 have ha:=List.mem_of_getElem? hi
 have hb:=List.mem_of_getElem? hk
 have hao:=hq.mom (more:=[]) (by simp) ha
 have hbo:=hq.mom (more:=[]) (by simp) hb
 have eb:(⟨a.bal,b.tick⟩:Mom)=b:=by rw [hab]
 have ea:(⟨a.bal,a.tick⟩:Mom)=a:=rfl
 have ht:a.tick≤b.tick:=by
  rcases Nat.lt_or_eq_of_le hik with hlt | rfl
  ·have:=inc_get (distS_inc momLt_ok _) hlt hi hk
   simp [momLt] at this; omega
  ·rw [hi] at hk; cases hk; exact Int.le_refl _
 have hmore:∀ m ∈ [a,b],m ∈ momsF q []:=by intro m hm; simp at hm; rcases hm with rfl | rfl <;> assumption
 have hok:∀ m ∈ [a,b],momOK q m=true:=by intro m hm; simp at hm; rcases hm with rfl | rfl <;> assumption
 have hS:=sem_more hmore (made_sem hq h)
 have hc:=(calm_sem hq (more:=[a,b]) (by simp) hok).2 ⟨_,_,hS⟩
 have ia:a ∈ momsF q [a,b]:=momsF_mem.2 (.inr (.inr (by simp)))
 have ib:b ∈ momsF q [a,b]:=momsF_mem.2 (.inr (.inr (by simp)))
 obtain ⟨b1,_,_⟩:=range_sem hq (more:=[a,b]) (by simp) hok hc (a:=.mom a) (b:=.mom b) ia ib
 have t:=b1 _ _ hS
 unfold changeF betweenF
 rw [ea,eb,if_pos (checkR_ok.2 hq),if_pos ⟨hao,hbo,ht⟩,if_pos hc]
 simp only [Var.pl,Var.val,mostR] at *
 have e1:atF sh (plF (momsF q []) a)=sh.getD i 0:=by rw [plF_at (momsF_nodup q []) hi]; unfold atF; rw [if_neg (by omega),Int.toNat_natCast]
 have e2:atF sh (plF (momsF q []) b)=sh.getD k 0:=by rw [plF_at (momsF_nodup q []) hk]; unfold atF; rw [if_neg (by omega),Int.toNat_natCast]
 rw [e1,e2] at t
 refine⟨trivial,by omega,by omega⟩

end Go.Proofs

namespace Go.Proofs
open Go.Sx

structure Tiny (r:Rd) (b:Bal):Prop where
 ok:RdOK r
 bs:r.bs=[b]
 lo:(objsF r).length≤2
 lm:(momsF r []).length≤2

end Go.Proofs

namespace Go.Proofs
open Go.Sx

structure Small (r:Rd) (b:Bal):Prop where
 tiny:Tiny r b
 cap:b.cap≤6
 lo:-2≤b.lo
 hi:b.hi≤2
 ns:∀ n ∈ r.ns,-2≤n.slo∧n.shi≤2

end Go.Proofs

namespace Go
namespace Sx
open Go.Sort Go.RowKit Go.Proofs Go.Lib

def cmpI (a b:Int):Int:=if a < b then -1 else if b < a then 1 else 0
def orI:List Int → Int
  | []=>0
  | x :: r=>if x=0 then orI r else x

theorem swo_of {α:Type} {cf:α → α → Int} {lt:α → α → Bool} (ok:LtOK lt) (h:∀ x y,ltOf cf x y=lt x y):SWO (ltOf cf) where
  irrefl x:=by rw [h]; exact ok.irr x
  trans x y z h1 h2:=by rw [h] at *; exact ok.tr x y z h1 h2
  ntrans x y z h1 h2:=by
    rw [h] at *
    by_cases hxz:lt x z=true
    · exfalso
      by_cases e1:x=y
      · subst e1; rw [hxz] at h2; cases h2
      by_cases e2:y=z
      · subst e2; rw [hxz] at h1; cases h1
      rcases ok.tot x y e1 with h3 | h3
      · rw [h3] at h1; cases h1
      · rcases ok.tot y z e2 with h4 | h4
        · rw [h4] at h2; cases h2
        · have:=ok.tr _ _ _ h4 h3
          have:=ok.tr _ _ _ hxz this
          rw [ok.irr] at this; cases this
    · simpa using hxz

theorem swo_id {α:Type} {cf:α → α → Int} {key:α → Int} (h:∀ x y,ltOf cf x y=idLt key x y):SWO (ltOf cf) where
  irrefl x:=by rw [h]; simp [idLt]
  trans x y z h1 h2:=by rw [h] at *; simp [idLt] at *; omega
  ntrans x y z h1 h2:=by rw [h] at *; simp [idLt] at *; omega

theorem pdqL_pair {α:Type} [Inhabited α] {cf:α → α → Int} (hO:SWO (ltOf cf)) (xs:List α):(pdqL cf xs).Pairwise fun x y=>ltOf cf y x=false:=by
  obtain ⟨_,_,h⟩:=pdqL_size hO xs
  have hl:=pdqL_len hO xs
  refine List.pairwise_iff_getElem.2 fun i j hi hj hij=>?_
  have:=h i j hij (by omega)
  rw [getElem!_pos (pdqL cf xs) j hj,getElem!_pos (pdqL cf xs) i hi] at this
  exact this

theorem pdqL_perm {α:Type} [Inhabited α] {cf:α → α → Int} (hO:SWO (ltOf cf)) (xs:List α):(pdqL cf xs).Perm xs:=(pdqL_size hO xs).2.1

theorem pdqL_dist {α:Type} [Inhabited α] [DecidableEq α] {cf:α → α → Int} {lt:α → α → Bool} (ok:LtOK lt) (h:∀ x y,ltOf cf x y=lt x y) (xs:List α):compS (pdqL cf xs)=distS lt xs:=by
  have hO:=swo_of ok h
  refine distS_unique ok (compS_inc ok ((pdqL_pair hO xs).imp fun {a b} hab=>by rw [← h]; exact hab)) fun z=>?_
  rw [compS_mem,(pdqL_perm hO xs).mem_iff]

theorem pdqL_le {α:Type} [Inhabited α] {cf:α → α → Int} {key:α → Int} (h:∀ x y,ltOf cf x y=idLt key x y) (xs:List α):(pdqL cf xs).Pairwise fun x y=>key x≤key y :=
  (pdqL_pair (swo_id h) xs).imp fun {a b} hab=>by rw [h] at hab; simp [idLt] at hab; exact hab

theorem pdqL_sort {α:Type} [Inhabited α] {cf:α → α → Int} {key:α → Int} (h:∀ x y,ltOf cf x y=idLt key x y) {xs:List α} (hd:(xs.map key).Nodup):pdqL cf xs=sortK key xs :=
  sortK_unique hd (pdqL_perm (swo_id h) xs) (pdqL_le h xs)

theorem cmp_id {α:Type} (key:α → Int) (x y:α):ltOf (fun x y=>cmpI (key x) (key y)) x y=idLt key x y:=by
  unfold ltOf cmpI idLt
  refine decide_eq_decide.2 ?_
  dsimp only
  by_cases h:key x < key y
  · rw [if_pos h]; omega
  · rw [if_neg h]; split <;> omega

theorem cmp_thg (x y:Thg):ltOf (fun x y:Thg=>orI [cmpI x.lot y.lot,cmpI x.bale y.bale,cmpI x.smp y.smp,cmpI x.st y.st]) x y=thgLt x y:=by
  unfold ltOf thgLt
  simp only [orI,cmpI]
  by_cases a1:x.lot < y.lot
  · simp [a1]
  by_cases a2:y.lot < x.lot
  · simp [a1,a2]; omega
  have a3:x.lot=y.lot:=by omega
  by_cases b1:x.bale < y.bale
  · simp [a1,a2,a3,b1]
  by_cases b2:y.bale < x.bale
  · simp [a1,a2,a3,b1,b2]; omega
  have b3:x.bale=y.bale:=by omega
  by_cases c1:x.smp < y.smp
  · simp [a1,a2,a3,b1,b2,b3,c1]
  by_cases c2:y.smp < x.smp
  · simp [a1,a2,a3,b1,b2,b3,c1,c2]; omega
  have c3:x.smp=y.smp:=by omega
  by_cases d1:x.st < y.st
  · simp [a3,b3,c3,d1]
  by_cases d2:y.st < x.st
  · simp [a3,b3,c3,d1,d2]
  have d3:x.st=y.st:=by omega
  simp [a3,b3,c3,d3]

theorem cmp_mom (x y:Mom):ltOf (fun x y:Mom=>orI [cmpI x.bal y.bal,cmpI x.tick y.tick]) x y=momLt x y:=by
  unfold ltOf momLt
  simp only [orI,cmpI]
  by_cases a1:x.bal < y.bal
  · simp [a1]
  by_cases a2:y.bal < x.bal
  · simp [a1,a2]; omega
  have a3:x.bal=y.bal:=by omega
  by_cases d1:x.tick < y.tick
  · simp [a3,d1]
  by_cases d2:y.tick < x.tick
  · simp [a3,d1,d2]
  have d3:x.tick=y.tick:=by omega
  simp [a3,d3]

end Sx
end Go

namespace Go
namespace Sx

theorem aggI_inj {a b:List Int} (h:aggI a=aggI b):a=b:=by
  unfold aggI at h
  simp only [Value.agg.injEq] at h
  have h2:a.map (Value.int .i64)=b.map (Value.int .i64):=by
    have:=congrArg Array.toList h
    simpa using this
  exact (List.map_inj_right (fun x y hxy=>by cases hxy; rfl)).1 h2

theorem run_checkKey_ints {P:Program} {t:TypeId} (em:Bool) (m:Nat) (hu:P.underlying t=some (.struct (P.fieldsOf t))) (hf:intFs P (P.fieldsOf t).toList 0=true) (xs:List Int) (hn:xs.length=(P.fieldsOf t).toList.length) (w:World) :
    (Instr.checkKey em (m+1+1) t (aggI xs)).run P w=.ok () w:=by
  rw [Instr.checkKey]
  unfold aggI
  simp only [Sem.run_bind,run_underlying hu,Result.andThen_ok]
  rw [← Array.forIn_toList]
  have hj:xs.length=0+(P.fieldsOf t).toList.length:=by omega
  clear hn hu
  generalize (P.fieldsOf t).toList=L at hf hj
  generalize (0:Nat)=j at hf hj
  induction L generalizing j with
  | nil=>simp
  | cons f L ih =>
    simp only [intFs,Bool.and_eq_true] at hf
    obtain ⟨h1,h2,h3,h4⟩:=hf
    have h1 : f.name ≠ "_" := by simpa using h1
    have h2:f.offset=j:=by simpa using h2
    have h3:=isI64_eq h3
    simp only [List.length_cons] at hj
    have hjx:j < xs.length:=by omega
    have hp:=run_part_int (P:=P) (t:=f.type) (cs:=(xs.map (Value.int .i64)).toArray) (off:=j) (v:=.int .i64 xs[j]) w h3 (by simp [hjx])
    have hc:(Instr.checkKey em (m+1) f.type (.int .i64 xs[j])).run P w=.ok () w:=by simp [Instr.checkKey,run_underlying h3]
    have:=ih (j+1) h4 (by omega)
    simp only [List.forIn_cons,if_pos h1,Sem.run_bind,h2,hp,Result.andThen_ok,hc,Sem.run_pure]
    exact this

theorem findAsking_ints {P:Program} {t n:Nat} {L:List (Nat × Nat)} (hE:EqOK P L) (hm:(t,n) ∈ L) (ks:List Int) (hk:ks.length=n) (w:World):∀ (l:List MapEntry) (i:Nat),(∀ e ∈ l,∃ ks':List Int,ks'.length=n∧e.key=aggI ks') →
    ((Instr.findAsking t (aggI ks) l i).run P w=.ok none w∧∀ e ∈ l,e.key ≠ aggI ks) ∨
    (∃ j e,(Instr.findAsking t (aggI ks) l i).run P w=.ok (some (i+j,e.val)) w∧l[j]? = some e∧e.key=aggI ks)
  | [],i,_=>.inl ⟨by simp [Instr.findAsking],by simp⟩
  | e :: l,i,h=>by
    obtain ⟨ks',hl,he⟩:=h e (by simp)
    have heq:=(hE t n hm ks ks' hk hl w (.tmp 0) (.tmp 0)).2.2
    rw [← he] at heq
    by_cases hkk:ks=ks'
    · refine .inr ⟨0,e, ?_,rfl,by rw [he,hkk]⟩
      have hb:(ks == ks')=true:=by simpa using hkk
      simp [Instr.findAsking,Sem.run_bind,heq,hb]
    · have hb:(ks == ks')=false:=by simpa using hkk
      have hne:e.key ≠ aggI ks:=by rw [he]; intro h; exact hkk (aggI_inj h).symm
      have hrun:(Instr.findAsking t (aggI ks) (e :: l) i).run P w=(Instr.findAsking t (aggI ks) l (i+1)).run P w:=by
        simp [Instr.findAsking,Sem.run_bind,heq,hb]
      rcases findAsking_ints hE hm ks hk w l (i+1) (fun e he=>h e (by simp [he])) with ⟨h1,h2⟩ | ⟨j,e',h1,h2,h3⟩
      · refine .inl ⟨by rw [hrun,h1],fun e' he'=>?_⟩
        rcases List.mem_cons.1 he' with rfl | he'
        · exact hne
        · exact h2 e' he'
      · exact .inr ⟨j+1,e',by rw [hrun,h1,show i+1+j=i+(j+1) from by omega],by simpa using h2,h3⟩

def SetKObj (n:Nat) (S:List (List Int)) (x:Obj):Prop :=
  ∃ es clock,x=.map es clock∧(∀ e ∈ es.toList,∃ ks,ks ∈ S∧e.key=aggI ks∧e.val=.bool true)∧(∀ ks ∈ S,∃ e ∈ es.toList,e.key=aggI ks)∧∀ ks ∈ S,ks.length=n

def intsSC:List SC → Option (List Int)
  | []=>some []
  | .v (.int .i64 z) :: r=>match intsSC r with
    | some l=>some (z :: l)
    | none=>none
  | _ :: _=>none

theorem intsSC_rel {ρ:Asg}:∀ {l:List SC} {ks:List Int} {vs:List Value},intsSC l=some ks → relL ρ l vs → vs=ks.map (Value.int .i64)
  | [],ks,vs,h,hr=>by
    cases h
    cases vs with
    | nil=>rfl
    | cons v vs=>exact hr.elim
  | c :: r,ks,[],_,hr=>hr.elim
  | c :: r,ks,v :: vs,h,hr=>by
    cases c with
    | v x =>
      cases x with
      | int k z =>
        cases k <;> simp only [intsSC] at h <;> try (cases h; done)
        cases hl:intsSC r with
        | none=>rw [hl] at h; cases h
        | some l =>
          rw [hl] at h
          cases h
          have h1:v=.int .i64 z:=hr.1
          rw [h1,intsSC_rel hl hr.2]; rfl
      | _=>simp [intsSC] at h
    | _=>simp [intsSC] at h

def lookupSK (B:Tabs) (et0:TypeId) (kt0 n:Nat) (t:TypeId) (x y:SV) (H:Heap) (K:Eff → Prop):Prop :=
  match lookT B.T t,x,y with
  | some ⟨.map kt et,_,_,_⟩, .c (.m k), .agg l=>(match look H k,intsSC l with
    | some (true, .raw Φ),some ks=>bif Nat.beq et et0 && (Nat.beq kt kt0 && Nat.beq (lenL ks) n) then
        ∃ S,Φ=SetKObj n S∧K ⟨.c (.v (.bool (decide (ks ∈ S)))),[k],[],[]⟩ else False
    | _,_=>False)
  | _,_,_=>False
where lenL:List Int → Nat
  | []=>0
  | _ :: r=>lenL r+1

theorem lenL_eq (l:List Int):lookupSK.lenL l=l.length:=by induction l <;> simp [lookupSK.lenL, *]

end Sx
end Go

