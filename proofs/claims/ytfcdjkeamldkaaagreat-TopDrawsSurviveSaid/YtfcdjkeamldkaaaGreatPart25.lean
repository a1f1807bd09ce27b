/-
  A part of the proof that a law answers true: lemmas of a symbolic walk, plain functions, or contracts of the functions walked (QS, QT, QU, QV). Conditions: none.
-/
import Derived.Test.YtfcdjkeamldkaaaGreatPart24
import Derived.Test.YtfcdjkeamldkaaaGreatPart14
set_option maxRecDepth 100000
set_option linter.unusedVariables false
set_option linter.unusedSimpArgs false
namespace Go.Proofs
open Go.Sx

abbrev Nt:=List UInt8 × List UInt8 × List UInt8

def ntB (l:List UInt8):Nt:=(subL l 44 52,subL l 120 128,baseT l)
def ntF (l:List UInt8):Nt:=(subL l 22 30,subL l 120 128,frameT l)

def oneP (P:List Nt):Bool:=P.all fun p=>P.all fun q=>(!decide (p.1=q.1) || decide (p.2.2=q.2.2)) && (!decide (p.2.1=q.2.1) || decide (p.2.2=q.2.2))

theorem oneP_1 {P:List Nt} (h:oneP P=true) {p q:Nt} (hp:p ∈ P) (hq:q ∈ P) (e:p.1=q.1):p.2.2=q.2.2:=by
 have:=List.all_eq_true.1 (List.all_eq_true.1 h p hp) q hq
 simp [e] at this
 exact this.1

theorem oneP_2 {P:List Nt} (h:oneP P=true) {p q:Nt} (hp:p ∈ P) (hq:q ∈ P) (e:p.2.1=q.2.1):p.2.2=q.2.2:=by
 have:=List.all_eq_true.1 (List.all_eq_true.1 h p hp) q hq
 simp [e] at this
 exact this.2

structure NtI (P:List Nt) (w:Wt):Prop where
 clash:w.clash=false
 front:∀ k t,lookSM w.front k=(t,true) → ∃ p ∈ P,p.1=k∧p.2.2=t
 back:∀ k t,lookSM w.back k=(t,true) → ∃ p ∈ P,p.2.1=k∧p.2.2=t

theorem look_mk {M:SMs} {k:List UInt8} (h:(lookSM M k).2=true):lookSM M k=((lookSM M k).1,true):=Prod.ext rfl h

theorem NtI.note {P:List Nt} (hP:oneP P=true) {w:Wt} (h:NtI P w) {p:Nt} (hp:p ∈ P):NtI P (noteW w p.1 p.2.1 p.2.2):=by
 have c1:noteC w.front p.1 p.2.2=false:=by
  unfold noteC
  cases h2:(lookSM w.front p.1).2 with
  | false=>rfl
  | true =>
   obtain ⟨q,hq,e1,e2⟩:=h.front _ _ (look_mk h2)
   rw [← e2,oneP_1 hP hq hp e1]; simp
 have c2:noteC w.back p.2.1 p.2.2=false:=by
  unfold noteC
  cases h2:(lookSM w.back p.2.1).2 with
  | false=>rfl
  | true =>
   obtain ⟨q,hq,e1,e2⟩:=h.back _ _ (look_mk h2)
   rw [← e2,oneP_2 hP hq hp e1]; simp
 refine⟨?_,fun k t hk=>?_,fun k t hk=>?_⟩
 ·show (w.clash || (noteC w.front p.1 p.2.2 || noteC w.back p.2.1 p.2.2))=false
  rw [h.clash,c1,c2]; rfl
 ·have hk:lookSM (putSM w.front p.1 p.2.2) k=(t,true):=hk
  by_cases e:p.1=k
  ·subst e
   rw [look_put_self] at hk
   exact⟨p,hp,rfl,(Prod.mk.inj hk).1⟩
  ·rw [look_put_ne _ _ e] at hk
   exact h.front k t hk
 ·have hk:lookSM (putSM w.back p.2.1 p.2.2) k=(t,true):=hk
  by_cases e:p.2.1=k
  ·subst e
   rw [look_put_self] at hk
   exact⟨p,hp,rfl,(Prod.mk.inj hk).1⟩
  ·rw [look_put_ne _ _ e] at hk
   exact h.back k t hk

def OkSec (P:List Nt) (i:Nat) (l:List UInt8):Prop:=(i < 2 → isBaseF l i=true → ntB l ∈ P)∧(2≤i → sealedF 2 l 22=true → ntF l ∈ P)

theorem NtI.sec {P:List Nt} (hP:oneP P=true) {w:Wt} (h:NtI P w) {i:Nat} {l:List UInt8} (hl:OkSec P i l):NtI P (scanSec i l w):=by
 unfold scanSec
 split
 ·rename_i h2
  split
  ·rename_i hb; exact h.note hP (hl.1 h2 hb)
  ·exact h
 ·rename_i h2
  split
  ·rename_i hb; exact h.note hP (hl.2 (by omega) hb)
  ·exact h

theorem NtI.secs {P:List Nt} (hP:oneP P=true) {w:Wt} (h:NtI P w) {i:Nat} {r:Sct × Option Sct}:∀ m,(∀ k,k < m → OkSec P i (sectK r k).l) → NtI P (scanK i r w m)
 | 0,_=>h
 | m+1,hl=>(NtI.secs hP h m fun k hk=>hl k (by omega)).sec hP (hl m (by omega))

theorem NtI.scan {P:List Nt} (hP:oneP P=true) {w:Wt} (h:NtI P w) {D:Dk}:∀ m,(∀ i,i < m → ∀ k,k < cntK (D.getD i (zSct,none)) → OkSec P i (sectK (D.getD i (zSct,none)) k).l) → NtI P (scanN D w m)
 | 0,_=>h
 | m+1,hl=>(NtI.scan hP h m fun i hi=>hl i (by omega)).secs hP _ (hl m (by omega))

def allP (l:List (List UInt8)):List Nt:=ntB base0.l :: (List.range (sumN l l.length)).map fun j=>ntF (frF l j).l

theorem ok_zero (P:List Nt) (i:Nat):OkSec P i zSct.l:=by
 have hz:zSct.l=zero128:=rfl
 rw [hz]
 exact⟨fun _ h=>(by rw [zero_base] at h; cases h),fun _ h=>(by rw [zero_sealed] at h; cases h)⟩

theorem ok_frame (l:List (List UInt8)) {j:Nat} (hj:j < sumN l l.length) {i:Nat} (h2:2≤i):OkSec (allP l) i (frF l j).l :=
 ⟨fun h=>by omega,fun _ _=>List.mem_cons_of_mem _ (List.mem_map.2 ⟨j,List.mem_range.2 hj,rfl⟩)⟩

theorem ok_base (l:List (List UInt8)):OkSec (allP l) 1 base0.l:=⟨fun _ _=>List.mem_cons_self,fun h=>by omega⟩

theorem getD_of {D:Dk} {i:Nat} {r:Sct × Option Sct} (h:D[i]? = some r):D.getD i (zSct,none)=r:=by rw [List.getD_eq_getElem?_getD,h]; rfl

theorem lay_ok {n:Nat} (hn:6≤n) {l:List (List UInt8)} {D:Dk} {cnt dur:Nat} (h:LayI n (frF l) D cnt dur) (hc:cnt≤sumN l l.length):∀ i,i < n → ∀ k,k < cntK (D.getD i (zSct,none)) → OkSec (allP l) i (sectK (D.getD i (zSct,none)) k).l:=by
 intro i hi k hk
 have hle:=h.le
 by_cases h0:i=0
 ·subst h0
  rw [getD_of h.z] at hk ⊢
  have:k=0:=by have:k < 1:=hk; omega
  subst this
  exact ok_zero _ _
 by_cases h1:i=1
 ·subst h1
  rw [getD_of h.b] at hk ⊢
  have:k=0:=by have:k < 1:=hk; omega
  subst this
  exact ok_base _
 obtain ⟨j,hj,hji⟩:=slotN_sur hn (show 2≤i by omega) hi
 have hr:=h.at_ j hj
 rw [hji] at hr
 rw [getD_of hr] at hk ⊢
 by_cases c1:j < dur
 ·rw [if_pos c1] at hk ⊢
  have:k=0:=by have:k < 1:=hk; omega
  subst this
  exact ok_frame l (by omega) (by omega)
 rw [if_neg c1] at hk ⊢
 by_cases c2:j < cnt
 ·rw [if_pos c2] at hk ⊢
  have:k < 2:=hk
  by_cases hk0:k=0
  ·subst hk0; exact ok_zero _ _
  ·have:k=1:=by omega
   subst this
   exact ok_frame l (by omega) (by omega)
 ·rw [if_neg c2] at hk ⊢
  have:k=0:=by have:k < 1:=hk; omega
  subst this
  exact ok_zero _ _

theorem kwN_ok {n:Nat} (hn:6≤n) {l:List (List UInt8)} (hl:sumN l l.length≤n - 2) (committed:Int) (hP:oneP (allP l)=true):∀ i,i≤l.length → NtI (allP l) (kwN n committed l i).w
 | 0,_=>by
  refine NtI.scan hP (w:=w00) ⟨rfl,fun k t h=>by simp [w00,lookSM] at h,fun k t h=>by simp [w00,lookSM] at h⟩ n ?_
  exact lay_ok hn (LayI.new hn _) (Nat.zero_le _)
 | i+1,h=>by
  have ih:=kwN_ok hn hl committed hP i (by omega)
  obtain ⟨dur,i1,_⟩:=kwN_L hn hl committed i (by omega)
  have e:l.getD i []=l[i]'(by omega):=by rw [List.getD_eq_getElem?_getD,List.getElem?_eq_getElem (by omega)]; rfl
  show NtI (allP l) (kwStep n committed i (l.getD i []) (kwN n committed l i)).w
  rw [e]
  have ha:=i1.app hn hl (by omega)
  have hm:=sumN_mono l (show i+1≤l.length by omega)
  have hw:NtI (allP l) (kwApp n (l[i]'(by omega)) (kwN n committed l i)).w:=NtI.scan hP ih n (lay_ok hn ha.lay hm)
  unfold kwStep
  split
  ·exact NtI.scan hP hw n (lay_ok hn ha.lay.sync hm)
  ·exact hw

theorem whole_law {n:Nat} (hn:6≤n∧n≤65536) {l:List (List UInt8)} (hl:sumN l l.length≤n - 2) (hne:0 < l.length) (hP:oneP (allP l)=true) (keep:List Int) :
  (scanN (crashD keep (kwN n l.length l l.length).D) (kwN n l.length l l.length).w n).clash=false:=by
 have hw:=kwN_ok hn.1 hl l.length hP l.length (Nat.le_refl _)
 obtain ⟨dur,i1,i2⟩:=kwN_L hn.1 hl l.length l.length (Nat.le_refl _)
 have hd:=i2 (by omega) (by omega)
 rw [Int.toNat_natCast] at hd
 have hle:=i1.lay.le
 have hdur:dur=sumN l l.length:=by omega
 subst hdur
 have hL:=left_of i1.lay keep
 generalize hD2:crashD keep (kwN n l.length l l.length).D=D2 at hL
 have hnone:∀ i,i < n → ∃ s:Sct,D2.getD i (zSct,none)=(s,none)∧atD D2 i=s.l:=fun i hi=>by
  have h1:i < D2.length:=by rw [hL.len]; exact hi
  have h2:D2[i]? = some D2[i]:=List.getElem?_eq_getElem h1
  have h3:D2[i].2=none:=by
   have h4:D2[i]? = ((crashF keep 0 (kwN n l.length l l.length).D)[i]?).map fun s=>(s,none):=by rw [← hD2]; unfold crashD; rw [List.getElem?_map]
   rw [h2] at h4
   cases hq:(crashF keep 0 (kwN n l.length l l.length).D)[i]? with
   | none=>rw [hq] at h4; cases h4
   | some s=>rw [hq] at h4; have h4:=Option.some.inj h4; rw [h4]
  refine⟨D2[i].1,by rw [getD_of h2]; exact Prod.ext rfl h3, ?_⟩
  unfold atD
  rw [getD_of h2]; unfold seenF; rw [h3]; rfl
 refine (NtI.scan hP hw n fun i hi k hk=>?_).clash
 obtain ⟨s,hs,hat⟩:=hnone i hi
 rw [hs] at hk ⊢
 have:k=0:=by have:k < 1:=hk; omega
 subst this
 show OkSec _ _ s.l
 rw [← hat]
 have hz:OkSec (allP l) i zero128:=ok_zero _ i
 by_cases h0:i=0
 ·subst h0; rw [hL.z]; exact hz
 by_cases h1:i=1
 ·subst h1; rw [hL.b]; exact ok_base _
 obtain ⟨j,hj,hji⟩:=slotN_sur hn.1 (show 2≤i by omega) hi
 rw [← hji] at hz ⊢
 rcases hL.at_ j hj with ⟨c,e⟩ | ⟨c,_⟩ | ⟨_,e⟩
 ·rw [e]; exact ok_frame l c (by omega)
 ·rcases hL.at_ j hj with ⟨c,e⟩ | ⟨c2,e | e | e⟩ | ⟨_,e⟩
  ·rw [e]; exact ok_frame l c (by omega)
  ·rw [e]; exact hz
  ·rw [e]; exact ok_frame l c (by omega)
  ·have hr:=i1.lay.at_ j hj
   rw [if_pos c] at hr
   obtain ⟨x,hx⟩:=crash_at (keep:=keep) hr
   rw [hD2] at hx
   have hx:atD D2 (slotN n j)=(frF l j).l:=hx
   rw [hx]; exact ok_frame l c (by omega)
  ·rw [e]; exact hz
 ·rw [e]; exact hz

end Go.Proofs

namespace Go.Proofs
open Go.Sx

theorem follow_len (D:Dk) (n:Nat):∀ (f:Nat) (g:Fo),(followF D n f g).recs.length≤g.recs.length+f
 | 0,g=>Nat.le_refl _
 | f+1,g=>by
  show (if badF (atD D (2+g.q % (n - 2))) g then g else followF D n f (nextF (atD D (2+g.q % (n - 2))) g)).recs.length≤_
  split
  ·omega
  ·have:=follow_len D n f (nextF (atD D (2+g.q % (n - 2))) g)
   have h2:(nextF (atD D (2+g.q % (n - 2))) g).recs.length≤g.recs.length+1:=by
    unfold nextF
    dsimp only
    split
    ·omega
    ·rw [List.length_append]; exact Nat.le_refl _
   omega

def KeptR (l:List (List UInt8)) (committed:Int) (c:Bool) (R:List (List UInt8)):Prop :=
 (c=true∧R=[]) ∨ (c=false∧∃ r,r≤l.length∧(1≤committed → committed≤l.length → committed≤r)∧R=l.take r)

theorem kept_t (l:List (List UInt8)) (hl:l.length≤1000) (hs:∀ s ∈ l,s.length≤6000) (committed:Int) (n:Nat) (hn:6≤n∧n≤65536) (hr:sumN l l.length≤n - 2) (keep:List Int) (hk:keep.length≤1000000) (hkb:∀ x ∈ keep,-9223372036854775808≤x∧x≤9223372036854775807) :
  ∃ c R,KeptR l committed c R∧(oneP (allP l)=true → committed=l.length → 0 < l.length → c=false) ∧
  Triple Tryz.prog 8 [.c (.s 0 0 l.length 1),iv .i64 committed,iv .i64 n, .c (.s 1 0 keep.length 1)] [(0,false, .arr (aStr l)),(1,false, .arr (aInt keep))] 2 (.tup [.inl (.s 2 0 R.length 1), .inl (.v (.bool true)), .inl (.v (.bool c))]) [(2,true, .arr (aStr R))]:=by
 have hrest:restN l 0≤n - 2:=by
  have:=sumN_rest l 0
  rw [sumN_zero] at this; omega
 obtain ⟨dur,i1,_⟩:=kwN_L hn.1 hr committed l.length (Nat.le_refl _)
 have hL:=left_of i1.lay keep
 obtain ⟨m0,hm0,hsv⟩:=left_surv hn.1 hL n (Nat.le_refl _) (by omega)
 refine⟨(scanN (crashD keep (kwN n committed l l.length).D) (kwN n committed l l.length).w n).clash,_, ?_, ?_,drawKept_t l hl hs committed n hn hrest keep hk hkb _ rfl (left_great hL) (by rw [hL.b]; exact base0_is) m0 hsv (by omega) (by rw [hL.b,base0_first]; decide) ?_ _ rfl _ rfl⟩
 ·cases hc:(scanN (crashD keep (kwN n committed l l.length).D) (kwN n committed l l.length).w n).clash with
  | true=>exact .inl ⟨rfl,rfl⟩
  | false=>exact .inr ⟨rfl,kept_law hn hr committed keep hc⟩
 ·intro hP hc h0
  subst hc
  exact whole_law hn hr h0 hP keep
 ·have:=follow_len (crashD keep (kwN n committed l l.length).D) (crashD keep (kwN n committed l l.length).D).length ((crashD keep (kwN n committed l l.length).D).length - 2) ⟨b0.first.toNat,b0.link,[],false,[]⟩
  rw [hL.len] at this
  unfold openG
  rw [hL.len]
  have e:([]:List Kp).length=0:=rfl
  dsimp only at this
  omega

theorem keptNil_t (l:List (List UInt8)) (hl:l.length≤1000) (hs:∀ s ∈ l,s.length≤6000) (committed:Int) (n:Nat) (hn:6≤n∧n≤65536) (hr:sumN l l.length≤n - 2) :
  ∃ c R,KeptR l committed c R∧(oneP (allP l)=true → committed=l.length → 0 < l.length → c=false) ∧
  Triple Tryz.prog 8 [.c (.s 0 0 l.length 1),iv .i64 committed,iv .i64 n, .c (.v nilV)] [(0,false, .arr (aStr l))] 1 (.tup [.inl (.s 2 0 R.length 1), .inl (.v (.bool true)), .inl (.v (.bool c))]) [(2,true, .arr (aStr R))]:=by
 obtain ⟨c,R,h1,h2,h⟩:=kept_t l hl hs committed n hn hr [] (Nat.zero_le _) (fun x hx=>by cases hx)
 refine⟨c,R,h1,h2,Triple.nilK (k:=1) (o:=.arr (aInt [])) (H:=[(0,false, .arr (aStr l))]) h rfl rfl rfl ?_⟩
 intro ρ vals hv
 match vals,hv with
 | [a,b,x,y],hv =>
  obtain ⟨h1,h2,h3,h4,_⟩:=hv
  refine⟨?_,h2,h3, ?_,trivial⟩
  ·have h1:(SC.s 0 0 l.length 1).rel ρ a:=h1
   show (SC.s 0 0 l.length 1).rel _ a
   exact SC.rel_agree (fun j hj=>upd_ne (show j ≠ 1 from by simp [SC.nms] at hj; omega)) h1
  ·have h4:y=.slice none 0 0:=h4
   subst h4
   exact⟨none,by rw [upd_eq]; rfl,by rw [upd_eq]; exact Nat.le_refl _,fun h=>by rw [upd_eq] at h; cases h⟩

end Go.Proofs

namespace Go.Proofs
open Go.Sx

def awP:Pl:=⟨5,[115,105,108,107],[(3,4)],2⟩
def awB:Sec:=⟨[98],[120]⟩
def awS:Sec:=⟨[115],[121]⟩
def awL:List (List UInt8):=recF awP awB awS
def awD:List Smp:=drawF awP (jointE awP.id awB awS).1

theorem aw_len:awL.length=6:=rfl
theorem aw_one:oneP (allP awL)=true:=by decide +kernel
theorem aw_skein:((awD.getD 0 (0,0,0)).2.2 == (awD.getD 1 (0,0,0)).2.2)=false:=by decide +kernel

end Go.Proofs

namespace Go.Proofs
open Go.Sx

theorem aw_kept:Triple Tryz.prog 8 [.c (.s 0 0 awL.length 1),iv .i64 awL.length,iv .i64 100, .c (.v nilV)] [(0,false, .arr (aStr awL))] 1 (.tup [.inl (.s 2 0 awL.length 1), .inl (.v (.bool true)), .inl (.v (.bool false))]) [(2,true, .arr (aStr awL))]:=by
 have hsum:sumN awL awL.length=6:=by decide +kernel
 have hsh:∀ s ∈ awL,s.length≤6000:=by decide +kernel
 obtain ⟨c,R,hk1,hk2,hkt⟩:=keptNil_t awL (by rw [aw_len]; decide) hsh awL.length 100 (by decide) (by rw [hsum]; decide)
 have hc:=hk2 aw_one rfl (by rw [aw_len]; decide)
 have hR:R=awL:=by
  rcases hk1 with ⟨h,_⟩ | ⟨_,r,h1,h2,h3⟩
  ·rw [h] at hc; cases hc
  ·have h2:=h2 (by rw [aw_len]; decide) (by rw [aw_len]; decide)
   rw [h3,List.take_of_length_le (by omega)]
 rw [hc,hR] at hkt
 exact hkt

theorem aw_rec:Triple Tryz.prog 7 [planS 0 awP,secV awB,secV awS] [(0,false, .arr (aBale [(3,4)]))] 1
   (.tup [.inl (.s 1 0 awL.length 1), .inl (.v (arrV (jointE awP.id awB awS).1)), .inl (.v (.bool true))]) [(1,true, .arr (aStr awL))] :=
 records_t awP (by decide) (by decide +kernel) awB awS (by decide) (by decide)

theorem aw_draw:Triple Tryz.prog 15 [planS 0 awP,arrS (jointE awP.id awB awS).1] [(0,false, .arr (aBale [(3,4)]))] 1 (.tup [.inl (.s 1 0 awD.length 3), .inl (.v (.int .i64 0))]) [(1,true, .arr (aSmp awD))] :=
 draw_t awP (by decide) (by decide +kernel) (jointE awP.id awB awS).1 (jointE_len _ _ _)

theorem aw_bound:∀ x ∈ awD,(1≤x.1∧x.1≤1099511627776)∧(1≤x.2.1∧x.2.1≤12)∧1≤x.2.2∧x.2.2≤200:=draw_bound (plan_ok (by decide +kernel)) _

theorem aw_d:∃ (x y:Smp) (a b c d e:List UInt8),awD=[x,y]∧awL=[a,b,c,d,e,smpText y]∧(x.2.2 == y.2.2)=false :=
 ⟨awD.getD 0 (0,0,0),awD.getD 1 (0,0,0),awL.getD 0 [],awL.getD 1 [],awL.getD 2 [],awL.getD 3 [],awL.getD 4 [],rfl,rfl,aw_skein⟩

theorem awake_t:Triple Tryz.prog 6 [] [] 0 (bv true) []:=by
 have hj:(jointE awP.id awB awS).1.length=16:=jointE_len _ _ _
 obtain ⟨x,y,l0,l1,l2,l3,l4,hd,hl,hne⟩:=aw_d
 have hrec:=aw_rec
 have hdr:=aw_draw
 have hkt:=aw_kept
 have hy:=aw_bound y (by rw [hd]; simp)
 rw [hd] at hdr
 rw [hl] at hrec hkt
 clear hd hl
 have hst:=smpText_t y (by omega) (by omega) (by omega)
 generalize smpText y=l5 at hrec hkt hst
 generalize (jointE awP.id awB awS).1=J at hj hrec hdr
 refine triple_of tB_ok Tryz.func6 rfl Tryz.call6 rfl ?_
 intro ρ w hH
 conv=>whnf
 refine bs_step tB_ok (aBale [(3,4)]) rfl rfl ?_
 conv=>whnf
 refine⟨⟨rfl,(by repeat'(first|exact trivial|exact rfl|refine And.intro ?_ ?_|((conv=>whnf);first|exact trivial|exact rfl|refine And.intro ?_ ?_|omega)))⟩, ?_⟩
 conv=>whnf
 refine call_step hrec rfl rfl ?_
 conv=>whnf
 refine⟨?_, ?_, ?_⟩
 iterate 2 · repeat'(first|exact trivial|exact rfl|refine And.intro ?_ ?_|((conv=>whnf);first|exact trivial|exact rfl|refine And.intro ?_ ?_|omega))
 conv=>whnf
 refine allocA_step tB_ok 16 rfl rfl rfl ?_
 conv=>whnf
 refine storeA_step (l':=J) tB_ok rfl rfl rfl rfl rfl (by simp) (by rw [hj]; simp) (by decide) ?_
 conv=>whnf
 refine call_step hkt rfl rfl ?_
 conv=>whnf
 refine⟨?_, ?_, ?_⟩
 iterate 2 · repeat'(first|exact trivial|exact rfl|refine And.intro ?_ ?_|((conv=>whnf);first|exact trivial|exact rfl|refine And.intro ?_ ?_|omega))
 conv=>whnf
 refine loadA_step (l:=J) tB_ok rfl rfl rfl rfl rfl hj.symm ?_
 conv=>whnf
 refine call_step hdr rfl rfl ?_
 conv=>whnf
 refine⟨?_, ?_, ?_⟩
 iterate 2 · repeat'(first|exact trivial|exact rfl|refine And.intro ?_ ?_|((conv=>whnf);first|exact trivial|exact rfl|refine And.intro ?_ ?_|omega))
 conv=>whnf
 refine⟨fun hc=>?_,fun hc=>absurd hc (by simp)⟩
 conv=>whnf
 refine⟨fun hc=>?_,fun hc=>absurd hc (by simp)⟩
 conv=>whnf
 refine⟨fun hc=>?_,fun hc=>absurd hc (by simp)⟩
 conv=>whnf
 refine⟨fun hc=>?_,fun hc=>absurd hc (by simp)⟩
 conv=>whnf
 refine⟨fun hc=>?_,fun hc=>absurd hc (by simp)⟩
 conv=>whnf
 refine⟨fun hc=>?_,fun hc=>absurd hc (by simp)⟩
 conv=>whnf
 refine⟨5,rfl,(show 5 < 6 from by decide), ?_⟩
 conv=>whnf
 refine⟨(show 5 < 6 from by decide), ?_⟩
 conv=>whnf
 refine⟨1,rfl,(show 1 < 2 from by decide), ?_⟩
 conv=>whnf
 refine⟨(show 1 < 2 from by decide), ?_⟩
 conv=>whnf
 refine call_step hst rfl rfl ?_
 conv=>whnf
 refine⟨?_, ?_, ?_⟩
 iterate 2 · repeat'(first|exact trivial|exact rfl|refine And.intro ?_ ?_|((conv=>whnf);first|exact trivial|exact rfl|refine And.intro ?_ ?_|omega))
 conv=>whnf
 refine seq_step (l:=l5) (l':=l5) rfl rfl rfl ?_
 rw [decide_eq_true rfl]
 conv=>whnf
 refine⟨fun hc=>?_,fun hc=>absurd hc (by simp)⟩
 conv=>whnf
 refine⟨0,rfl,(show 0 < 2 from by decide), ?_⟩
 conv=>whnf
 refine⟨(show 0 < 2 from by decide), ?_⟩
 conv=>whnf
 refine⟨1,rfl,(show 1 < 2 from by decide), ?_⟩
 conv=>whnf
 refine⟨(show 1 < 2 from by decide), ?_⟩
 conv=>whnf
 have hb:(x.2.2 != y.2.2)=true:=by rw [bne,hne]; rfl
 repeat' (first | exact hb | exact congrArg Value.bool hb | exact trivial | exact rfl | refine And.intro ?_ ?_ | ((conv=>whnf); first | exact hb | exact congrArg Value.bool hb | exact trivial | exact rfl | refine And.intro ?_ ?_ | omega))

end Go.Proofs

