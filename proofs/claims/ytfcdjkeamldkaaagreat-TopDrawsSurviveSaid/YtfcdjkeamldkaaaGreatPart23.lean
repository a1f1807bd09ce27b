/-
  A part of the proof that a law answers true: lemmas of a symbolic walk, plain functions, or contracts of the functions walked (QF, QG, QH, QI). Conditions: none.
-/
import Derived.Test.YtfcdjkeamldkaaaGreatPart22
set_option maxRecDepth 100000
set_option linter.unusedVariables false
set_option linter.unusedSimpArgs false
namespace Go.Proofs
open Go.Sx

def noteC (M:SMs) (h t:List UInt8):Bool:=(lookSM M h).2 && !decide ((lookSM M h).1=t)

theorem keyStr:Tryz.prog.underlying 9=some .string:=by kernel_rfl
theorem zeroStr_ok:∀ w,(zeroValue 9).run Tryz.prog w=.ok (stV []) w:=by intro w; kernel_rfl

theorem xnote_t (M:SMs) (h t:List UInt8):Triple Tryz.prog 133 [.c (.m 0),strV h,strV t] [(0,true,smO M)] 1 (bv (noteC M h t)) [(0,true,smO (putSM M h t))]:=by
 refine triple_of tB_ok Tryz.func133 rfl Tryz.call133 rfl ?_
 intro ρ w hH
 conv=>whnf
 refine lookSM_step tB_ok keyStr zeroStr_ok rfl rfl rfl rfl rfl ?_
 cases hl:lookSM M h with
 | mk old is =>
 conv=>whnf
 refine upSM_step tB_ok keyStr rfl rfl rfl rfl rfl rfl ?_
 conv=>whnf
 cases is with
 | false =>
  rw [show noteC M h t=false from by simp [noteC,hl]]
  refine⟨fun hc=>absurd hc (by simp),fun hc=>?_⟩
  conv=>whnf
  repeat'(first|exact trivial|exact rfl|refine And.intro ?_ ?_|((conv=>whnf);first|exact trivial|exact rfl|refine And.intro ?_ ?_|omega))
 | true =>
  rw [show noteC M h t=!decide (old=t) from by simp [noteC,hl]]
  refine⟨fun hc=>?_,fun hc=>absurd hc (by simp)⟩
  conv=>whnf
  refine sne_step (l:=old) (l':=t) rfl rfl rfl ?_
  conv=>whnf
  repeat'(first|exact trivial|exact rfl|refine And.intro ?_ ?_|((conv=>whnf);first|exact trivial|exact rfl|refine And.intro ?_ ?_|omega))

structure Wt where
 front:SMs
 back:SMs
 clash:Bool

def noteW (w:Wt) (h1 h2 t:List UInt8):Wt:=⟨putSM w.front h1 t,putSM w.back h2 t,w.clash || (noteC w.front h1 t || noteC w.back h2 t)⟩

def baseT (l:List UInt8):List UInt8:=([98] ++ l.take 44) ++ (l.take 120).drop 52
def frameT (l:List UInt8):List UInt8:=([102] ++ l.take 22) ++ (l.take 120).drop 30

def scanSec (i:Nat) (l:List UInt8) (w:Wt):Wt :=
 if i < 2 then (if isBaseF l i then noteW w (subL l 44 52) (subL l 120 128) (baseT l) else w)
 else if sealedF 2 l 22 then noteW w (subL l 22 30) (subL l 120 128) (frameT l) else w

def sectK (r:Sct × Option Sct) (k:Nat):Sct:=if k=0 then r.1 else r.2.getD r.1

def cntK (r:Sct × Option Sct):Nat:=if r.2.isSome then 2 else 1

def scanK (i:Nat) (r:Sct × Option Sct) (w:Wt):Nat → Wt
 | 0=>w
 | k+1=>scanSec i (sectK r k).l (scanK i r w k)

def scanN (D:Dk) (w:Wt):Nat → Wt
 | 0=>w
 | i+1=>scanK i (D.getD i (zSct,none)) (scanN D w i) (cntK (D.getD i (zSct,none)))

abbrev shC (n:Nat) (clash:Bool):List SC:=[.p 0 0 0 0, .p 3 0 0 0, .v (.int .i64 n), .m 6, .m 7, .v (.bool clash)]

abbrev shH (n:Nat) (D:Dk) (x:Xl) (ks:List Xk) (w:Wt):Heap :=
 [(5,true, .cells (shC n w.clash)),(0,false,dskC 1 n),(1,false,dkR 2 D),(2,false,dkB D),(3,false, .cells (xlC n x 4 ks.length)),(4,false, .arr (aXk ks)),(6,true,smO w.front),(7,true,smO w.back)]

abbrev wtH (n:Nat) (w:Wt):Heap:=[(5,true, .cells (shC n w.clash)),(6,true,smO w.front),(7,true,smO w.back)]





theorem xscan_t (D:Dk) (hd:6≤D.length∧D.length≤65536) (x:Xl) (ks:List Xk) (w0:Wt):Triple Tryz.prog 76 [.c (.p 5 0 0 0)] (shH D.length D x ks w0) 8 (.tup []) (wtH D.length (scanN D w0 D.length)):=by
 have hrl:=rowsF_length D
 refine triple_of tB_ok Tryz.func76 rfl Tryz.call76 rfl ?_
 intro ρ w hH
 conv=>whnf
 refine loop_step tB_ok (G:=Nat × Wt) 0 [] (fun g=>[(2,iv .i64 g.1)]) (fun g=>wtH D.length g.2) (fun g=>g.1≤D.length∧g.2=scanN D w0 g.1) (fun g=>D.length - g.1) ?_
 conv=>whnf
 refine⟨⟨(0,w0),⟨Nat.zero_le _,rfl⟩, ?_⟩, ?_⟩
 ·conv=>whnf
  repeat' (first | exact (aRow_ren rfl) | exact trivial | exact rfl | refine And.intro ?_ ?_ | ((conv=>whnf); first | exact (aRow_ren rfl) | exact trivial | exact rfl | refine And.intro ?_ ?_ | omega))
 rintro ⟨i,w1⟩ ⟨hi,hw⟩ ρ1 t1 hρ1
 have hi:i≤D.length:=hi
 have hw:w1=scanN D w0 i:=hw
 conv=>whnf
 refine⟨fun hc=>?_,fun hc=>?_⟩
 rotate_left
 ·have hie:i=D.length:=by have:=of_decide_eq_false hc; omega
  subst hie
  rw [← hw]
  conv=>whnf
  repeat' (first | exact (aRow_ren rfl) | exact trivial | exact rfl | refine And.intro ?_ ?_ | ((conv=>whnf); first | exact (aRow_ren rfl) | exact trivial | exact rfl | refine And.intro ?_ ?_ | omega))
 have h:i < D.length:=by have:=of_decide_eq_true hc; omega
 have hst:scanN D w0 (i+1)=scanK i D[i] w1 (cntK D[i]):=by
  rw [hw]
  show scanK i (D.getD i (zSct,none)) (scanN D w0 i) (cntK (D.getD i (zSct,none)))=_
  rw [List.getD_eq_getElem?_getD,List.getElem?_eq_getElem h]; rfl
 conv=>whnf
 refine loop_step tB_ok (G:=Nat × Wt) 0 [] (fun g=>[(3,iv .i64 g.1)]) (fun g=>wtH D.length g.2) (fun g=>g.1≤cntK D[i]∧g.2=scanK i D[i] w1 g.1) (fun g=>3 - g.1) ?_
 conv=>whnf
 refine⟨⟨(0,w1),⟨Nat.zero_le _,rfl⟩, ?_⟩, ?_⟩
 ·conv=>whnf
  repeat' (first | exact (aRow_ren rfl) | exact trivial | exact rfl | refine And.intro ?_ ?_ | ((conv=>whnf); first | exact (aRow_ren rfl) | exact trivial | exact rfl | refine And.intro ?_ ?_ | omega))
 rintro ⟨k,w2⟩ ⟨hk,hw2⟩ ρ2 t2 hρ2
 have hk:k≤cntK D[i]:=hk
 have hw2:w2=scanK i D[i] w1 k:=hw2
 conv=>whnf
 refine⟨i,rfl,h, ?_⟩
 conv=>whnf
 have hsc:scanK i D[i] w1 (k+1)=scanSec i (sectK D[i] k).l w2:=by rw [hw2]; rfl
 cases hq:D[i].2 with
 | none =>
  have hcn:cntK D[i]=1:=by simp [cntK,hq]
  refine loadNil_step (s:=D[i].1) (u:=nilV) tB_ok rfl rfl rfl rfl rfl rfl (rows_none h hq) ?_
  conv=>whnf
  refine⟨fun hc=>?_,fun hc=>?_⟩
  rotate_left
  ·have hke:k=1:=by have:=of_decide_eq_false hc; dsimp only at this; omega
   conv=>whnf
   refine⟨_,wrapId ⟨by omega,by omega⟩, ?_⟩
   refine⟨(i+1,w2),⟨h,Eq.trans hw2 (Eq.symm (hst.trans (by rw [hcn,hke])))⟩,by show D.length - (i+1) < D.length - i; omega, ?_⟩
   conv=>whnf
   refine⟨rfl, ?_⟩
   conv=>whnf
   repeat' (first | exact (aRow_ren rfl) | exact trivial | exact rfl | refine And.intro ?_ ?_ | ((conv=>whnf); first | exact (aRow_ren rfl) | exact trivial | exact rfl | refine And.intro ?_ ?_ | omega))
  have hk0:k=0:=by have:=of_decide_eq_true hc; dsimp only at this; omega
  have hkc:k+1≤cntK D[i]:=by omega
  have hsk:(sectK D[i] k).l=D[i].1.l:=by rw [hk0]; rfl
  rw [hsk] at hsc
  have hal:=D[i].1.h
  conv=>whnf
  refine⟨i,rfl,h, ?_⟩
  conv=>whnf
  refine loadSec_step tB_ok D[i].1 (.v nilV) rfl rfl rfl rfl rfl rfl rfl (rows_none h hq) ?_
  generalize D[i].1.l=l at hsc hal ⊢
  conv=>whnf
  refine allocA_step tB_ok 128 rfl rfl rfl ?_
  conv=>whnf
  refine storeA_step (l':=l) tB_ok rfl rfl rfl rfl rfl (by simp) (by rw [hal]; simp) (by decide) ?_
  conv=>whnf
  refine⟨fun hc=>?_,fun hc=>?_⟩
  ·exact absurd (show (0:Int) < (k:Int) from of_decide_eq_true hc) (by omega)
  conv=>whnf
  by_cases c2:i < 2
  ·have n2:(i:Int) < 2:=by omega
   have p2:¬ (2:Int)≤(i:Int):=by omega
   refine⟨fun hc=>?_,fun hc=>absurd n2 (show ¬ (i:Int) < 2 from of_decide_eq_false hc)⟩
   conv=>whnf
   refine loadA_step (l:=l) tB_ok rfl rfl rfl rfl rfl hal.symm ?_
   conv=>whnf
   refine call_step (xisBase_t l hal i (by omega)) rfl rfl ?_
   conv=>whnf
   refine⟨?_, ?_, ?_⟩
   iterate 2 · repeat'(first|exact trivial|exact rfl|refine And.intro ?_ ?_|((conv=>whnf);first|exact trivial|exact rfl|refine And.intro ?_ ?_|omega))
   conv=>whnf
   refine⟨fun hc=>absurd (show (2:Int)≤(i:Int) from of_decide_eq_true hc) p2,fun hc=>?_⟩
   cases hb:isBaseF l i with
   | false =>
    have hw3:w2=scanK i D[i] w1 (k+1):=by rw [hsc]; simp [scanSec,c2,hb]
    conv=>whnf
    refine⟨fun hc=>absurd hc (by simp),fun hc=>?_⟩
    conv=>whnf
    conv=>whnf
    refine⟨_,wrapId ⟨by omega,by omega⟩, ?_⟩
    refine⟨(k+1,w2),⟨hkc,hw3⟩,by show 3 - (k+1) < 3 - k; omega, ?_⟩
    conv=>whnf
    refine⟨rfl, ?_⟩
    conv=>whnf
    repeat' (first | exact (aRow_ren rfl) | exact trivial | exact rfl | refine And.intro ?_ ?_ | ((conv=>whnf); first | exact (aRow_ren rfl) | exact trivial | exact rfl | refine And.intro ?_ ?_ | omega))
   | true =>
    have hw3:noteW w2 (subL l 44 52) (subL l 120 128) (baseT l)=scanK i D[i] w1 (k+1):=by rw [hsc]; simp [scanSec,c2,hb]
    conv=>whnf
    refine⟨fun hc=>?_,fun hc=>absurd hc (by simp)⟩
    conv=>whnf
    refine slA_step (n:=128) (l:=l) tB_ok rfl rfl rfl rfl rfl rfl ⟨44,rfl,by decide,0,rfl,by decide, ?_⟩
    conv=>whnf
    refine b2s_step (fx:=some 128) (l:=l) tB_ok rfl rfl rfl rfl rfl rfl (by rw [subN_eq]; omega) ?_
    rw [show (l.drop 0).take (subN 44 0)=l.take 44 from by rw [subN_eq]; rfl]
    conv=>whnf
    refine cat_step (l:=[98]) (l':=l.take 44) rfl rfl rfl (by rw [List.length_take]; show 1+_≤_; omega) ?_
    conv=>whnf
    refine slA_step (n:=128) (l:=l) tB_ok rfl rfl rfl rfl rfl rfl ⟨120,rfl,by decide,52,rfl,by decide, ?_⟩
    conv=>whnf
    refine b2s_step (fx:=some 128) (l:=l) tB_ok rfl rfl rfl rfl rfl rfl (by rw [subN_eq]; omega) ?_
    rw [show (l.drop 52).take (subN 120 52)=(l.take 120).drop 52 from by rw [subN_eq,List.drop_take]]
    conv=>whnf
    refine cat_step (l:=[98] ++ l.take 44) (l':=(l.take 120).drop 52) rfl rfl rfl (by rw [List.length_append,List.length_take,List.length_drop,List.length_take]; show 1+_+_≤_; omega) ?_
    rw [show ([98] ++ l.take 44) ++ (l.take 120).drop 52=baseT l from rfl]
    generalize baseT l=tx at hw3 ⊢
    conv=>whnf
    refine slA_step (n:=128) (l:=l) tB_ok rfl rfl rfl rfl rfl rfl ⟨52,rfl,by decide,44,rfl,by decide, ?_⟩
    conv=>whnf
    refine b2s_step (fx:=some 128) (l:=l) tB_ok rfl rfl rfl rfl rfl rfl (by rw [subN_eq]; omega) ?_
    rw [show (l.drop 44).take (subN 52 44)=subL l 44 52 from by rw [subN_eq]; rfl]
    conv=>whnf
    refine call_step (xnote_t w2.front (subL l 44 52) tx) rfl rfl ?_
    conv=>whnf
    refine⟨?_, ?_, ?_⟩
    iterate 2 · repeat'(first|exact trivial|exact rfl|refine And.intro ?_ ?_|((conv=>whnf);first|exact trivial|exact rfl|refine And.intro ?_ ?_|omega))
    conv=>whnf
    refine slA_step (n:=128) (l:=l) tB_ok rfl rfl rfl rfl rfl rfl ⟨128,rfl,by decide,120,rfl,by decide, ?_⟩
    conv=>whnf
    refine b2s_step (fx:=some 128) (l:=l) tB_ok rfl rfl rfl rfl rfl rfl (by rw [subN_eq]; omega) ?_
    rw [show (l.drop 120).take (subN 128 120)=subL l 120 128 from by rw [subN_eq]; rfl]
    conv=>whnf
    refine call_step (xnote_t w2.back (subL l 120 128) tx) rfl rfl ?_
    conv=>whnf
    refine⟨?_, ?_, ?_⟩
    iterate 2 · repeat'(first|exact trivial|exact rfl|refine And.intro ?_ ?_|((conv=>whnf);first|exact trivial|exact rfl|refine And.intro ?_ ?_|omega))
    have e3:∀ c,(w2.clash || (noteC w2.front (subL l 44 52) tx || noteC w2.back (subL l 120 128) tx))=c → (⟨putSM w2.front (subL l 44 52) tx,putSM w2.back (subL l 120 128) tx,c⟩:Wt)=scanK i D[i] w1 (k+1):=fun c hc=>by rw [← hw3,← hc]; rfl
    generalize noteC w2.front (subL l 44 52) tx=n1 at e3 ⊢
    generalize noteC w2.back (subL l 120 128) tx=n2 at e3 ⊢
    generalize hcl:w2.clash=cl at e3 ⊢
    conv=>whnf
    cases cl with
    | true =>
     have hw3:=e3 true rfl
     conv=>whnf
     refine⟨fun hc=>?_,fun hc=>absurd hc (by simp)⟩
     conv=>whnf
     conv=>whnf
     refine⟨_,wrapId ⟨by omega,by omega⟩, ?_⟩
     refine⟨(k+1,_),⟨hkc,hw3⟩,by show 3 - (k+1) < 3 - k; omega, ?_⟩
     conv=>whnf
     refine⟨rfl, ?_⟩
     conv=>whnf
     repeat' (first | exact (aRow_ren rfl) | exact trivial | exact rfl | refine And.intro ?_ ?_ | ((conv=>whnf); first | exact (aRow_ren rfl) | exact trivial | exact rfl | refine And.intro ?_ ?_ | omega))
    | false =>
     conv=>whnf
     refine⟨fun hc=>absurd hc (by simp),fun hc=>?_⟩
     conv=>whnf
     cases n1 with
     | true =>
      have hw3:=e3 true rfl
      conv=>whnf
      refine⟨fun hc=>?_,fun hc=>absurd hc (by simp)⟩
      conv=>whnf
      conv=>whnf
      refine⟨_,wrapId ⟨by omega,by omega⟩, ?_⟩
      refine⟨(k+1,_),⟨hkc,hw3⟩,by show 3 - (k+1) < 3 - k; omega, ?_⟩
      conv=>whnf
      refine⟨rfl, ?_⟩
      conv=>whnf
      repeat' (first | exact (aRow_ren rfl) | exact trivial | exact rfl | refine And.intro ?_ ?_ | ((conv=>whnf); first | exact (aRow_ren rfl) | exact trivial | exact rfl | refine And.intro ?_ ?_ | omega))
     | false =>
      have hw3:=e3 n2 rfl
      conv=>whnf
      refine⟨fun hc=>absurd hc (by simp),fun hc=>?_⟩
      conv=>whnf
      conv=>whnf
      refine⟨_,wrapId ⟨by omega,by omega⟩, ?_⟩
      refine⟨(k+1,_),⟨hkc,hw3⟩,by show 3 - (k+1) < 3 - k; omega, ?_⟩
      conv=>whnf
      refine⟨rfl, ?_⟩
      conv=>whnf
      repeat' (first | exact (aRow_ren rfl) | exact trivial | exact rfl | refine And.intro ?_ ?_ | ((conv=>whnf); first | exact (aRow_ren rfl) | exact trivial | exact rfl | refine And.intro ?_ ?_ | omega))
  ·have n2:¬ (i:Int) < 2:=by omega
   have p2:(2:Int)≤(i:Int):=by omega
   refine⟨fun hc=>absurd (show (i:Int) < 2 from of_decide_eq_true hc) n2,fun hc=>?_⟩
   conv=>whnf
   refine⟨fun hc=>?_,fun hc=>absurd p2 (show ¬ (2:Int)≤(i:Int) from of_decide_eq_false hc)⟩
   conv=>whnf
   refine loadA_step (l:=l) tB_ok rfl rfl rfl rfl rfl hal.symm ?_
   conv=>whnf
   refine call_step (xisFrame_t l hal) rfl rfl ?_
   conv=>whnf
   refine⟨?_, ?_, ?_⟩
   iterate 2 · repeat'(first|exact trivial|exact rfl|refine And.intro ?_ ?_|((conv=>whnf);first|exact trivial|exact rfl|refine And.intro ?_ ?_|omega))
   conv=>whnf
   cases hb:sealedF 2 l 22 with
   | false =>
    have hw3:w2=scanK i D[i] w1 (k+1):=by rw [hsc]; simp [scanSec,c2,hb]
    refine⟨fun hc=>absurd hc (by simp),fun hc=>?_⟩
    conv=>whnf
    conv=>whnf
    refine⟨_,wrapId ⟨by omega,by omega⟩, ?_⟩
    refine⟨(k+1,w2),⟨hkc,hw3⟩,by show 3 - (k+1) < 3 - k; omega, ?_⟩
    conv=>whnf
    refine⟨rfl, ?_⟩
    conv=>whnf
    repeat' (first | exact (aRow_ren rfl) | exact trivial | exact rfl | refine And.intro ?_ ?_ | ((conv=>whnf); first | exact (aRow_ren rfl) | exact trivial | exact rfl | refine And.intro ?_ ?_ | omega))
   | true =>
    have hw3:noteW w2 (subL l 22 30) (subL l 120 128) (frameT l)=scanK i D[i] w1 (k+1):=by rw [hsc]; simp [scanSec,c2,hb]
    refine⟨fun hc=>?_,fun hc=>absurd hc (by simp)⟩
    conv=>whnf
    refine slA_step (n:=128) (l:=l) tB_ok rfl rfl rfl rfl rfl rfl ⟨22,rfl,by decide,0,rfl,by decide, ?_⟩
    conv=>whnf
    refine b2s_step (fx:=some 128) (l:=l) tB_ok rfl rfl rfl rfl rfl rfl (by rw [subN_eq]; omega) ?_
    rw [show (l.drop 0).take (subN 22 0)=l.take 22 from by rw [subN_eq]; rfl]
    conv=>whnf
    refine cat_step (l:=[102]) (l':=l.take 22) rfl rfl rfl (by rw [List.length_take]; show 1+_≤_; omega) ?_
    conv=>whnf
    refine slA_step (n:=128) (l:=l) tB_ok rfl rfl rfl rfl rfl rfl ⟨120,rfl,by decide,30,rfl,by decide, ?_⟩
    conv=>whnf
    refine b2s_step (fx:=some 128) (l:=l) tB_ok rfl rfl rfl rfl rfl rfl (by rw [subN_eq]; omega) ?_
    rw [show (l.drop 30).take (subN 120 30)=(l.take 120).drop 30 from by rw [subN_eq,List.drop_take]]
    conv=>whnf
    refine cat_step (l:=[102] ++ l.take 22) (l':=(l.take 120).drop 30) rfl rfl rfl (by rw [List.length_append,List.length_take,List.length_drop,List.length_take]; show 1+_+_≤_; omega) ?_
    rw [show ([102] ++ l.take 22) ++ (l.take 120).drop 30=frameT l from rfl]
    generalize frameT l=tx at hw3 ⊢
    conv=>whnf
    refine slA_step (n:=128) (l:=l) tB_ok rfl rfl rfl rfl rfl rfl ⟨30,rfl,by decide,22,rfl,by decide, ?_⟩
    conv=>whnf
    refine b2s_step (fx:=some 128) (l:=l) tB_ok rfl rfl rfl rfl rfl rfl (by rw [subN_eq]; omega) ?_
    rw [show (l.drop 22).take (subN 30 22)=subL l 22 30 from by rw [subN_eq]; rfl]
    conv=>whnf
    refine call_step (xnote_t w2.front (subL l 22 30) tx) rfl rfl ?_
    conv=>whnf
    refine⟨?_, ?_, ?_⟩
    iterate 2 · repeat'(first|exact trivial|exact rfl|refine And.intro ?_ ?_|((conv=>whnf);first|exact trivial|exact rfl|refine And.intro ?_ ?_|omega))
    conv=>whnf
    refine slA_step (n:=128) (l:=l) tB_ok rfl rfl rfl rfl rfl rfl ⟨128,rfl,by decide,120,rfl,by decide, ?_⟩
    conv=>whnf
    refine b2s_step (fx:=some 128) (l:=l) tB_ok rfl rfl rfl rfl rfl rfl (by rw [subN_eq]; omega) ?_
    rw [show (l.drop 120).take (subN 128 120)=subL l 120 128 from by rw [subN_eq]; rfl]
    conv=>whnf
    refine call_step (xnote_t w2.back (subL l 120 128) tx) rfl rfl ?_
    conv=>whnf
    refine⟨?_, ?_, ?_⟩
    iterate 2 · repeat'(first|exact trivial|exact rfl|refine And.intro ?_ ?_|((conv=>whnf);first|exact trivial|exact rfl|refine And.intro ?_ ?_|omega))
    have e3:∀ c,(w2.clash || (noteC w2.front (subL l 22 30) tx || noteC w2.back (subL l 120 128) tx))=c → (⟨putSM w2.front (subL l 22 30) tx,putSM w2.back (subL l 120 128) tx,c⟩:Wt)=scanK i D[i] w1 (k+1):=fun c hc=>by rw [← hw3,← hc]; rfl
    generalize noteC w2.front (subL l 22 30) tx=n1 at e3 ⊢
    generalize noteC w2.back (subL l 120 128) tx=n2 at e3 ⊢
    generalize hcl:w2.clash=cl at e3 ⊢
    conv=>whnf
    cases cl with
    | true =>
     have hw3:=e3 true rfl
     conv=>whnf
     refine⟨fun hc=>?_,fun hc=>absurd hc (by simp)⟩
     conv=>whnf
     conv=>whnf
     refine⟨_,wrapId ⟨by omega,by omega⟩, ?_⟩
     refine⟨(k+1,_),⟨hkc,hw3⟩,by show 3 - (k+1) < 3 - k; omega, ?_⟩
     conv=>whnf
     refine⟨rfl, ?_⟩
     conv=>whnf
     repeat' (first | exact (aRow_ren rfl) | exact trivial | exact rfl | refine And.intro ?_ ?_ | ((conv=>whnf); first | exact (aRow_ren rfl) | exact trivial | exact rfl | refine And.intro ?_ ?_ | omega))
    | false =>
     conv=>whnf
     refine⟨fun hc=>absurd hc (by simp),fun hc=>?_⟩
     conv=>whnf
     cases n1 with
     | true =>
      have hw3:=e3 true rfl
      conv=>whnf
      refine⟨fun hc=>?_,fun hc=>absurd hc (by simp)⟩
      conv=>whnf
      conv=>whnf
      refine⟨_,wrapId ⟨by omega,by omega⟩, ?_⟩
      refine⟨(k+1,_),⟨hkc,hw3⟩,by show 3 - (k+1) < 3 - k; omega, ?_⟩
      conv=>whnf
      refine⟨rfl, ?_⟩
      conv=>whnf
      repeat' (first | exact (aRow_ren rfl) | exact trivial | exact rfl | refine And.intro ?_ ?_ | ((conv=>whnf); first | exact (aRow_ren rfl) | exact trivial | exact rfl | refine And.intro ?_ ?_ | omega))
     | false =>
      have hw3:=e3 n2 rfl
      conv=>whnf
      refine⟨fun hc=>absurd hc (by simp),fun hc=>?_⟩
      conv=>whnf
      conv=>whnf
      refine⟨_,wrapId ⟨by omega,by omega⟩, ?_⟩
      refine⟨(k+1,_),⟨hkc,hw3⟩,by show 3 - (k+1) < 3 - k; omega, ?_⟩
      conv=>whnf
      refine⟨rfl, ?_⟩
      conv=>whnf
      repeat' (first | exact (aRow_ren rfl) | exact trivial | exact rfl | refine And.intro ?_ ?_ | ((conv=>whnf); first | exact (aRow_ren rfl) | exact trivial | exact rfl | refine And.intro ?_ ?_ | omega))
 | some q =>
  have hcn:cntK D[i]=2:=by simp [cntK,hq]
  refine loadPend_step (s:=D[i].1) (q:=q) tB_ok rfl rfl rfl rfl rfl rfl (rows_some h hq) rfl (pnd_some h hq) ?_
  conv=>whnf
  refine⟨fun hc=>?_,fun hc=>?_⟩
  rotate_left
  ·have hke:k=2:=by have:=of_decide_eq_false hc; dsimp only at this; omega
   conv=>whnf
   refine⟨_,wrapId ⟨by omega,by omega⟩, ?_⟩
   refine⟨(i+1,w2),⟨h,Eq.trans hw2 (Eq.symm (hst.trans (by rw [hcn,hke])))⟩,by show D.length - (i+1) < D.length - i; omega, ?_⟩
   conv=>whnf
   refine⟨rfl, ?_⟩
   conv=>whnf
   repeat' (first | exact (aRow_ren rfl) | exact trivial | exact rfl | refine And.intro ?_ ?_ | ((conv=>whnf); first | exact (aRow_ren rfl) | exact trivial | exact rfl | refine And.intro ?_ ?_ | omega))
  have hk1:k≤1:=by have:=of_decide_eq_true hc; dsimp only at this; omega
  have hkc:k+1≤cntK D[i]:=by omega
  conv=>whnf
  refine⟨i,rfl,h, ?_⟩
  conv=>whnf
  refine loadSec_step tB_ok D[i].1 (.ghost 2 i) rfl rfl rfl rfl rfl rfl rfl (rows_some h hq) ?_
  have hd1:=D[i].1.h
  conv=>whnf
  refine allocA_step tB_ok 128 rfl rfl rfl ?_
  conv=>whnf
  refine storeA_step (l':=D[i].1.l) tB_ok rfl rfl rfl rfl rfl (by simp) (by rw [hd1]; simp) (by decide) ?_
  conv=>whnf
  by_cases hk0:k=0
  ·have hsk:(sectK D[i] k).l=D[i].1.l:=by rw [hk0]; rfl
   rw [hsk] at hsc
   have hal:=hd1
   generalize D[i].1.l=l at hsc hal ⊢
   refine⟨fun hc=>absurd (show (0:Int) < (k:Int) from of_decide_eq_true hc) (by omega),fun hc=>?_⟩
   conv=>whnf
   by_cases c2:i < 2
   ·have n2:(i:Int) < 2:=by omega
    have p2:¬ (2:Int)≤(i:Int):=by omega
    refine⟨fun hc=>?_,fun hc=>absurd n2 (show ¬ (i:Int) < 2 from of_decide_eq_false hc)⟩
    conv=>whnf
    refine loadA_step (l:=l) tB_ok rfl rfl rfl rfl rfl hal.symm ?_
    conv=>whnf
    refine call_step (xisBase_t l hal i (by omega)) rfl rfl ?_
    conv=>whnf
    refine⟨?_, ?_, ?_⟩
    iterate 2 · repeat'(first|exact trivial|exact rfl|refine And.intro ?_ ?_|((conv=>whnf);first|exact trivial|exact rfl|refine And.intro ?_ ?_|omega))
    conv=>whnf
    refine⟨fun hc=>absurd (show (2:Int)≤(i:Int) from of_decide_eq_true hc) p2,fun hc=>?_⟩
    cases hb:isBaseF l i with
    | false =>
     have hw3:w2=scanK i D[i] w1 (k+1):=by rw [hsc]; simp [scanSec,c2,hb]
     conv=>whnf
     refine⟨fun hc=>absurd hc (by simp),fun hc=>?_⟩
     conv=>whnf
     conv=>whnf
     refine⟨_,wrapId ⟨by omega,by omega⟩, ?_⟩
     refine⟨(k+1,w2),⟨hkc,hw3⟩,by show 3 - (k+1) < 3 - k; omega, ?_⟩
     conv=>whnf
     refine⟨rfl, ?_⟩
     conv=>whnf
     repeat' (first | exact (aRow_ren rfl) | exact trivial | exact rfl | refine And.intro ?_ ?_ | ((conv=>whnf); first | exact (aRow_ren rfl) | exact trivial | exact rfl | refine And.intro ?_ ?_ | omega))
    | true =>
     have hw3:noteW w2 (subL l 44 52) (subL l 120 128) (baseT l)=scanK i D[i] w1 (k+1):=by rw [hsc]; simp [scanSec,c2,hb]
     conv=>whnf
     refine⟨fun hc=>?_,fun hc=>absurd hc (by simp)⟩
     conv=>whnf
     refine slA_step (n:=128) (l:=l) tB_ok rfl rfl rfl rfl rfl rfl ⟨44,rfl,by decide,0,rfl,by decide, ?_⟩
     conv=>whnf
     refine b2s_step (fx:=some 128) (l:=l) tB_ok rfl rfl rfl rfl rfl rfl (by rw [subN_eq]; omega) ?_
     rw [show (l.drop 0).take (subN 44 0)=l.take 44 from by rw [subN_eq]; rfl]
     conv=>whnf
     refine cat_step (l:=[98]) (l':=l.take 44) rfl rfl rfl (by rw [List.length_take]; show 1+_≤_; omega) ?_
     conv=>whnf
     refine slA_step (n:=128) (l:=l) tB_ok rfl rfl rfl rfl rfl rfl ⟨120,rfl,by decide,52,rfl,by decide, ?_⟩
     conv=>whnf
     refine b2s_step (fx:=some 128) (l:=l) tB_ok rfl rfl rfl rfl rfl rfl (by rw [subN_eq]; omega) ?_
     rw [show (l.drop 52).take (subN 120 52)=(l.take 120).drop 52 from by rw [subN_eq,List.drop_take]]
     conv=>whnf
     refine cat_step (l:=[98] ++ l.take 44) (l':=(l.take 120).drop 52) rfl rfl rfl (by rw [List.length_append,List.length_take,List.length_drop,List.length_take]; show 1+_+_≤_; omega) ?_
     rw [show ([98] ++ l.take 44) ++ (l.take 120).drop 52=baseT l from rfl]
     generalize baseT l=tx at hw3 ⊢
     conv=>whnf
     refine slA_step (n:=128) (l:=l) tB_ok rfl rfl rfl rfl rfl rfl ⟨52,rfl,by decide,44,rfl,by decide, ?_⟩
     conv=>whnf
     refine b2s_step (fx:=some 128) (l:=l) tB_ok rfl rfl rfl rfl rfl rfl (by rw [subN_eq]; omega) ?_
     rw [show (l.drop 44).take (subN 52 44)=subL l 44 52 from by rw [subN_eq]; rfl]
     conv=>whnf
     refine call_step (xnote_t w2.front (subL l 44 52) tx) rfl rfl ?_
     conv=>whnf
     refine⟨?_, ?_, ?_⟩
     iterate 2 · repeat'(first|exact trivial|exact rfl|refine And.intro ?_ ?_|((conv=>whnf);first|exact trivial|exact rfl|refine And.intro ?_ ?_|omega))
     conv=>whnf
     refine slA_step (n:=128) (l:=l) tB_ok rfl rfl rfl rfl rfl rfl ⟨128,rfl,by decide,120,rfl,by decide, ?_⟩
     conv=>whnf
     refine b2s_step (fx:=some 128) (l:=l) tB_ok rfl rfl rfl rfl rfl rfl (by rw [subN_eq]; omega) ?_
     rw [show (l.drop 120).take (subN 128 120)=subL l 120 128 from by rw [subN_eq]; rfl]
     conv=>whnf
     refine call_step (xnote_t w2.back (subL l 120 128) tx) rfl rfl ?_
     conv=>whnf
     refine⟨?_, ?_, ?_⟩
     iterate 2 · repeat'(first|exact trivial|exact rfl|refine And.intro ?_ ?_|((conv=>whnf);first|exact trivial|exact rfl|refine And.intro ?_ ?_|omega))
     have e3:∀ c,(w2.clash || (noteC w2.front (subL l 44 52) tx || noteC w2.back (subL l 120 128) tx))=c → (⟨putSM w2.front (subL l 44 52) tx,putSM w2.back (subL l 120 128) tx,c⟩:Wt)=scanK i D[i] w1 (k+1):=fun c hc=>by rw [← hw3,← hc]; rfl
     generalize noteC w2.front (subL l 44 52) tx=n1 at e3 ⊢
     generalize noteC w2.back (subL l 120 128) tx=n2 at e3 ⊢
     generalize hcl:w2.clash=cl at e3 ⊢
     conv=>whnf
     cases cl with
     | true =>
      have hw3:=e3 true rfl
      conv=>whnf
      refine⟨fun hc=>?_,fun hc=>absurd hc (by simp)⟩
      conv=>whnf
      conv=>whnf
      refine⟨_,wrapId ⟨by omega,by omega⟩, ?_⟩
      refine⟨(k+1,_),⟨hkc,hw3⟩,by show 3 - (k+1) < 3 - k; omega, ?_⟩
      conv=>whnf
      refine⟨rfl, ?_⟩
      conv=>whnf
      repeat' (first | exact (aRow_ren rfl) | exact trivial | exact rfl | refine And.intro ?_ ?_ | ((conv=>whnf); first | exact (aRow_ren rfl) | exact trivial | exact rfl | refine And.intro ?_ ?_ | omega))
     | false =>
      conv=>whnf
      refine⟨fun hc=>absurd hc (by simp),fun hc=>?_⟩
      conv=>whnf
      cases n1 with
      | true =>
       have hw3:=e3 true rfl
       conv=>whnf
       refine⟨fun hc=>?_,fun hc=>absurd hc (by simp)⟩
       conv=>whnf
       conv=>whnf
       refine⟨_,wrapId ⟨by omega,by omega⟩, ?_⟩
       refine⟨(k+1,_),⟨hkc,hw3⟩,by show 3 - (k+1) < 3 - k; omega, ?_⟩
       conv=>whnf
       refine⟨rfl, ?_⟩
       conv=>whnf
       repeat' (first | exact (aRow_ren rfl) | exact trivial | exact rfl | refine And.intro ?_ ?_ | ((conv=>whnf); first | exact (aRow_ren rfl) | exact trivial | exact rfl | refine And.intro ?_ ?_ | omega))
      | false =>
       have hw3:=e3 n2 rfl
       conv=>whnf
       refine⟨fun hc=>absurd hc (by simp),fun hc=>?_⟩
       conv=>whnf
       conv=>whnf
       refine⟨_,wrapId ⟨by omega,by omega⟩, ?_⟩
       refine⟨(k+1,_),⟨hkc,hw3⟩,by show 3 - (k+1) < 3 - k; omega, ?_⟩
       conv=>whnf
       refine⟨rfl, ?_⟩
       conv=>whnf
       repeat' (first | exact (aRow_ren rfl) | exact trivial | exact rfl | refine And.intro ?_ ?_ | ((conv=>whnf); first | exact (aRow_ren rfl) | exact trivial | exact rfl | refine And.intro ?_ ?_ | omega))
   ·have n2:¬ (i:Int) < 2:=by omega
    have p2:(2:Int)≤(i:Int):=by omega
    refine⟨fun hc=>absurd (show (i:Int) < 2 from of_decide_eq_true hc) n2,fun hc=>?_⟩
    conv=>whnf
    refine⟨fun hc=>?_,fun hc=>absurd p2 (show ¬ (2:Int)≤(i:Int) from of_decide_eq_false hc)⟩
    conv=>whnf
    refine loadA_step (l:=l) tB_ok rfl rfl rfl rfl rfl hal.symm ?_
    conv=>whnf
    refine call_step (xisFrame_t l hal) rfl rfl ?_
    conv=>whnf
    refine⟨?_, ?_, ?_⟩
    iterate 2 · repeat'(first|exact trivial|exact rfl|refine And.intro ?_ ?_|((conv=>whnf);first|exact trivial|exact rfl|refine And.intro ?_ ?_|omega))
    conv=>whnf
    cases hb:sealedF 2 l 22 with
    | false =>
     have hw3:w2=scanK i D[i] w1 (k+1):=by rw [hsc]; simp [scanSec,c2,hb]
     refine⟨fun hc=>absurd hc (by simp),fun hc=>?_⟩
     conv=>whnf
     conv=>whnf
     refine⟨_,wrapId ⟨by omega,by omega⟩, ?_⟩
     refine⟨(k+1,w2),⟨hkc,hw3⟩,by show 3 - (k+1) < 3 - k; omega, ?_⟩
     conv=>whnf
     refine⟨rfl, ?_⟩
     conv=>whnf
     repeat' (first | exact (aRow_ren rfl) | exact trivial | exact rfl | refine And.intro ?_ ?_ | ((conv=>whnf); first | exact (aRow_ren rfl) | exact trivial | exact rfl | refine And.intro ?_ ?_ | omega))
    | true =>
     have hw3:noteW w2 (subL l 22 30) (subL l 120 128) (frameT l)=scanK i D[i] w1 (k+1):=by rw [hsc]; simp [scanSec,c2,hb]
     refine⟨fun hc=>?_,fun hc=>absurd hc (by simp)⟩
     conv=>whnf
     refine slA_step (n:=128) (l:=l) tB_ok rfl rfl rfl rfl rfl rfl ⟨22,rfl,by decide,0,rfl,by decide, ?_⟩
     conv=>whnf
     refine b2s_step (fx:=some 128) (l:=l) tB_ok rfl rfl rfl rfl rfl rfl (by rw [subN_eq]; omega) ?_
     rw [show (l.drop 0).take (subN 22 0)=l.take 22 from by rw [subN_eq]; rfl]
     conv=>whnf
     refine cat_step (l:=[102]) (l':=l.take 22) rfl rfl rfl (by rw [List.length_take]; show 1+_≤_; omega) ?_
     conv=>whnf
     refine slA_step (n:=128) (l:=l) tB_ok rfl rfl rfl rfl rfl rfl ⟨120,rfl,by decide,30,rfl,by decide, ?_⟩
     conv=>whnf
     refine b2s_step (fx:=some 128) (l:=l) tB_ok rfl rfl rfl rfl rfl rfl (by rw [subN_eq]; omega) ?_
     rw [show (l.drop 30).take (subN 120 30)=(l.take 120).drop 30 from by rw [subN_eq,List.drop_take]]
     conv=>whnf
     refine cat_step (l:=[102] ++ l.take 22) (l':=(l.take 120).drop 30) rfl rfl rfl (by rw [List.length_append,List.length_take,List.length_drop,List.length_take]; show 1+_+_≤_; omega) ?_
     rw [show ([102] ++ l.take 22) ++ (l.take 120).drop 30=frameT l from rfl]
     generalize frameT l=tx at hw3 ⊢
     conv=>whnf
     refine slA_step (n:=128) (l:=l) tB_ok rfl rfl rfl rfl rfl rfl ⟨30,rfl,by decide,22,rfl,by decide, ?_⟩
     conv=>whnf
     refine b2s_step (fx:=some 128) (l:=l) tB_ok rfl rfl rfl rfl rfl rfl (by rw [subN_eq]; omega) ?_
     rw [show (l.drop 22).take (subN 30 22)=subL l 22 30 from by rw [subN_eq]; rfl]
     conv=>whnf
     refine call_step (xnote_t w2.front (subL l 22 30) tx) rfl rfl ?_
     conv=>whnf
     refine⟨?_, ?_, ?_⟩
     iterate 2 · repeat'(first|exact trivial|exact rfl|refine And.intro ?_ ?_|((conv=>whnf);first|exact trivial|exact rfl|refine And.intro ?_ ?_|omega))
     conv=>whnf
     refine slA_step (n:=128) (l:=l) tB_ok rfl rfl rfl rfl rfl rfl ⟨128,rfl,by decide,120,rfl,by decide, ?_⟩
     conv=>whnf
     refine b2s_step (fx:=some 128) (l:=l) tB_ok rfl rfl rfl rfl rfl rfl (by rw [subN_eq]; omega) ?_
     rw [show (l.drop 120).take (subN 128 120)=subL l 120 128 from by rw [subN_eq]; rfl]
     conv=>whnf
     refine call_step (xnote_t w2.back (subL l 120 128) tx) rfl rfl ?_
     conv=>whnf
     refine⟨?_, ?_, ?_⟩
     iterate 2 · repeat'(first|exact trivial|exact rfl|refine And.intro ?_ ?_|((conv=>whnf);first|exact trivial|exact rfl|refine And.intro ?_ ?_|omega))
     have e3:∀ c,(w2.clash || (noteC w2.front (subL l 22 30) tx || noteC w2.back (subL l 120 128) tx))=c → (⟨putSM w2.front (subL l 22 30) tx,putSM w2.back (subL l 120 128) tx,c⟩:Wt)=scanK i D[i] w1 (k+1):=fun c hc=>by rw [← hw3,← hc]; rfl
     generalize noteC w2.front (subL l 22 30) tx=n1 at e3 ⊢
     generalize noteC w2.back (subL l 120 128) tx=n2 at e3 ⊢
     generalize hcl:w2.clash=cl at e3 ⊢
     conv=>whnf
     cases cl with
     | true =>
      have hw3:=e3 true rfl
      conv=>whnf
      refine⟨fun hc=>?_,fun hc=>absurd hc (by simp)⟩
      conv=>whnf
      conv=>whnf
      refine⟨_,wrapId ⟨by omega,by omega⟩, ?_⟩
      refine⟨(k+1,_),⟨hkc,hw3⟩,by show 3 - (k+1) < 3 - k; omega, ?_⟩
      conv=>whnf
      refine⟨rfl, ?_⟩
      conv=>whnf
      repeat' (first | exact (aRow_ren rfl) | exact trivial | exact rfl | refine And.intro ?_ ?_ | ((conv=>whnf); first | exact (aRow_ren rfl) | exact trivial | exact rfl | refine And.intro ?_ ?_ | omega))
     | false =>
      conv=>whnf
      refine⟨fun hc=>absurd hc (by simp),fun hc=>?_⟩
      conv=>whnf
      cases n1 with
      | true =>
       have hw3:=e3 true rfl
       conv=>whnf
       refine⟨fun hc=>?_,fun hc=>absurd hc (by simp)⟩
       conv=>whnf
       conv=>whnf
       refine⟨_,wrapId ⟨by omega,by omega⟩, ?_⟩
       refine⟨(k+1,_),⟨hkc,hw3⟩,by show 3 - (k+1) < 3 - k; omega, ?_⟩
       conv=>whnf
       refine⟨rfl, ?_⟩
       conv=>whnf
       repeat' (first | exact (aRow_ren rfl) | exact trivial | exact rfl | refine And.intro ?_ ?_ | ((conv=>whnf); first | exact (aRow_ren rfl) | exact trivial | exact rfl | refine And.intro ?_ ?_ | omega))
      | false =>
       have hw3:=e3 n2 rfl
       conv=>whnf
       refine⟨fun hc=>absurd hc (by simp),fun hc=>?_⟩
       conv=>whnf
       conv=>whnf
       refine⟨_,wrapId ⟨by omega,by omega⟩, ?_⟩
       refine⟨(k+1,_),⟨hkc,hw3⟩,by show 3 - (k+1) < 3 - k; omega, ?_⟩
       conv=>whnf
       refine⟨rfl, ?_⟩
       conv=>whnf
       repeat' (first | exact (aRow_ren rfl) | exact trivial | exact rfl | refine And.intro ?_ ?_ | ((conv=>whnf); first | exact (aRow_ren rfl) | exact trivial | exact rfl | refine And.intro ?_ ?_ | omega))
  ·have hke:k=1:=by omega
   have hsk:(sectK D[i] k).l=q.l:=by rw [hke]; show (D[i].2.getD D[i].1).l=_; rw [hq]; rfl
   rw [hsk] at hsc
   have hal:=q.h
   have pk:(0:Int) < (k:Int):=by omega
   refine⟨fun hc=>?_,fun hc=>absurd pk (show ¬ (0:Int) < (k:Int) from of_decide_eq_false hc)⟩
   conv=>whnf
   refine⟨i,rfl,h, ?_⟩
   conv=>whnf
   refine loadPend_step (s:=D[i].1) (q:=q) tB_ok rfl rfl rfl rfl rfl rfl (rows_some h hq) rfl (pnd_some h hq) ?_
   conv=>whnf
   refine⟨0,by show IntKind.i64.wrap ((k:Int) - 1)=0; rw [hke]; rfl, ?_⟩
   conv=>whnf
   refine⟨0,rfl,by decide, ?_⟩
   conv=>whnf
   refine loadS_step (s:=q) tB_ok rfl rfl rfl rfl rfl rfl rfl ?_
   conv=>whnf
   refine storeA_step (l':=q.l) tB_ok rfl rfl rfl rfl rfl hd1.symm (by rw [hal,hd1]) (by decide) ?_
   generalize q.l=l at hsc hal ⊢
   conv=>whnf
   by_cases c2:i < 2
   ·have n2:(i:Int) < 2:=by omega
    have p2:¬ (2:Int)≤(i:Int):=by omega
    refine⟨fun hc=>?_,fun hc=>absurd n2 (show ¬ (i:Int) < 2 from of_decide_eq_false hc)⟩
    conv=>whnf
    refine loadA_step (l:=l) tB_ok rfl rfl rfl rfl rfl hal.symm ?_
    conv=>whnf
    refine call_step (xisBase_t l hal i (by omega)) rfl rfl ?_
    conv=>whnf
    refine⟨?_, ?_, ?_⟩
    iterate 2 · repeat'(first|exact trivial|exact rfl|refine And.intro ?_ ?_|((conv=>whnf);first|exact trivial|exact rfl|refine And.intro ?_ ?_|omega))
    conv=>whnf
    refine⟨fun hc=>absurd (show (2:Int)≤(i:Int) from of_decide_eq_true hc) p2,fun hc=>?_⟩
    cases hb:isBaseF l i with
    | false =>
     have hw3:w2=scanK i D[i] w1 (k+1):=by rw [hsc]; simp [scanSec,c2,hb]
     conv=>whnf
     refine⟨fun hc=>absurd hc (by simp),fun hc=>?_⟩
     conv=>whnf
     conv=>whnf
     refine⟨_,wrapId ⟨by omega,by omega⟩, ?_⟩
     refine⟨(k+1,w2),⟨hkc,hw3⟩,by show 3 - (k+1) < 3 - k; omega, ?_⟩
     conv=>whnf
     refine⟨rfl, ?_⟩
     conv=>whnf
     repeat' (first | exact (aRow_ren rfl) | exact trivial | exact rfl | refine And.intro ?_ ?_ | ((conv=>whnf); first | exact (aRow_ren rfl) | exact trivial | exact rfl | refine And.intro ?_ ?_ | omega))
    | true =>
     have hw3:noteW w2 (subL l 44 52) (subL l 120 128) (baseT l)=scanK i D[i] w1 (k+1):=by rw [hsc]; simp [scanSec,c2,hb]
     conv=>whnf
     refine⟨fun hc=>?_,fun hc=>absurd hc (by simp)⟩
     conv=>whnf
     refine slA_step (n:=128) (l:=l) tB_ok rfl rfl rfl rfl rfl rfl ⟨44,rfl,by decide,0,rfl,by decide, ?_⟩
     conv=>whnf
     refine b2s_step (fx:=some 128) (l:=l) tB_ok rfl rfl rfl rfl rfl rfl (by rw [subN_eq]; omega) ?_
     rw [show (l.drop 0).take (subN 44 0)=l.take 44 from by rw [subN_eq]; rfl]
     conv=>whnf
     refine cat_step (l:=[98]) (l':=l.take 44) rfl rfl rfl (by rw [List.length_take]; show 1+_≤_; omega) ?_
     conv=>whnf
     refine slA_step (n:=128) (l:=l) tB_ok rfl rfl rfl rfl rfl rfl ⟨120,rfl,by decide,52,rfl,by decide, ?_⟩
     conv=>whnf
     refine b2s_step (fx:=some 128) (l:=l) tB_ok rfl rfl rfl rfl rfl rfl (by rw [subN_eq]; omega) ?_
     rw [show (l.drop 52).take (subN 120 52)=(l.take 120).drop 52 from by rw [subN_eq,List.drop_take]]
     conv=>whnf
     refine cat_step (l:=[98] ++ l.take 44) (l':=(l.take 120).drop 52) rfl rfl rfl (by rw [List.length_append,List.length_take,List.length_drop,List.length_take]; show 1+_+_≤_; omega) ?_
     rw [show ([98] ++ l.take 44) ++ (l.take 120).drop 52=baseT l from rfl]
     generalize baseT l=tx at hw3 ⊢
     conv=>whnf
     refine slA_step (n:=128) (l:=l) tB_ok rfl rfl rfl rfl rfl rfl ⟨52,rfl,by decide,44,rfl,by decide, ?_⟩
     conv=>whnf
     refine b2s_step (fx:=some 128) (l:=l) tB_ok rfl rfl rfl rfl rfl rfl (by rw [subN_eq]; omega) ?_
     rw [show (l.drop 44).take (subN 52 44)=subL l 44 52 from by rw [subN_eq]; rfl]
     conv=>whnf
     refine call_step (xnote_t w2.front (subL l 44 52) tx) rfl rfl ?_
     conv=>whnf
     refine⟨?_, ?_, ?_⟩
     iterate 2 · repeat'(first|exact trivial|exact rfl|refine And.intro ?_ ?_|((conv=>whnf);first|exact trivial|exact rfl|refine And.intro ?_ ?_|omega))
     conv=>whnf
     refine slA_step (n:=128) (l:=l) tB_ok rfl rfl rfl rfl rfl rfl ⟨128,rfl,by decide,120,rfl,by decide, ?_⟩
     conv=>whnf
     refine b2s_step (fx:=some 128) (l:=l) tB_ok rfl rfl rfl rfl rfl rfl (by rw [subN_eq]; omega) ?_
     rw [show (l.drop 120).take (subN 128 120)=subL l 120 128 from by rw [subN_eq]; rfl]
     conv=>whnf
     refine call_step (xnote_t w2.back (subL l 120 128) tx) rfl rfl ?_
     conv=>whnf
     refine⟨?_, ?_, ?_⟩
     iterate 2 · repeat'(first|exact trivial|exact rfl|refine And.intro ?_ ?_|((conv=>whnf);first|exact trivial|exact rfl|refine And.intro ?_ ?_|omega))
     have e3:∀ c,(w2.clash || (noteC w2.front (subL l 44 52) tx || noteC w2.back (subL l 120 128) tx))=c → (⟨putSM w2.front (subL l 44 52) tx,putSM w2.back (subL l 120 128) tx,c⟩:Wt)=scanK i D[i] w1 (k+1):=fun c hc=>by rw [← hw3,← hc]; rfl
     generalize noteC w2.front (subL l 44 52) tx=n1 at e3 ⊢
     generalize noteC w2.back (subL l 120 128) tx=n2 at e3 ⊢
     generalize hcl:w2.clash=cl at e3 ⊢
     conv=>whnf
     cases cl with
     | true =>
      have hw3:=e3 true rfl
      conv=>whnf
      refine⟨fun hc=>?_,fun hc=>absurd hc (by simp)⟩
      conv=>whnf
      conv=>whnf
      refine⟨_,wrapId ⟨by omega,by omega⟩, ?_⟩
      refine⟨(k+1,_),⟨hkc,hw3⟩,by show 3 - (k+1) < 3 - k; omega, ?_⟩
      conv=>whnf
      refine⟨rfl, ?_⟩
      conv=>whnf
      repeat' (first | exact (aRow_ren rfl) | exact trivial | exact rfl | refine And.intro ?_ ?_ | ((conv=>whnf); first | exact (aRow_ren rfl) | exact trivial | exact rfl | refine And.intro ?_ ?_ | omega))
     | false =>
      conv=>whnf
      refine⟨fun hc=>absurd hc (by simp),fun hc=>?_⟩
      conv=>whnf
      cases n1 with
      | true =>
       have hw3:=e3 true rfl
       conv=>whnf
       refine⟨fun hc=>?_,fun hc=>absurd hc (by simp)⟩
       conv=>whnf
       conv=>whnf
       refine⟨_,wrapId ⟨by omega,by omega⟩, ?_⟩
       refine⟨(k+1,_),⟨hkc,hw3⟩,by show 3 - (k+1) < 3 - k; omega, ?_⟩
       conv=>whnf
       refine⟨rfl, ?_⟩
       conv=>whnf
       repeat' (first | exact (aRow_ren rfl) | exact trivial | exact rfl | refine And.intro ?_ ?_ | ((conv=>whnf); first | exact (aRow_ren rfl) | exact trivial | exact rfl | refine And.intro ?_ ?_ | omega))
      | false =>
       have hw3:=e3 n2 rfl
       conv=>whnf
       refine⟨fun hc=>absurd hc (by simp),fun hc=>?_⟩
       conv=>whnf
       conv=>whnf
       refine⟨_,wrapId ⟨by omega,by omega⟩, ?_⟩
       refine⟨(k+1,_),⟨hkc,hw3⟩,by show 3 - (k+1) < 3 - k; omega, ?_⟩
       conv=>whnf
       refine⟨rfl, ?_⟩
       conv=>whnf
       repeat' (first | exact (aRow_ren rfl) | exact trivial | exact rfl | refine And.intro ?_ ?_ | ((conv=>whnf); first | exact (aRow_ren rfl) | exact trivial | exact rfl | refine And.intro ?_ ?_ | omega))
   ·have n2:¬ (i:Int) < 2:=by omega
    have p2:(2:Int)≤(i:Int):=by omega
    refine⟨fun hc=>absurd (show (i:Int) < 2 from of_decide_eq_true hc) n2,fun hc=>?_⟩
    conv=>whnf
    refine⟨fun hc=>?_,fun hc=>absurd p2 (show ¬ (2:Int)≤(i:Int) from of_decide_eq_false hc)⟩
    conv=>whnf
    refine loadA_step (l:=l) tB_ok rfl rfl rfl rfl rfl hal.symm ?_
    conv=>whnf
    refine call_step (xisFrame_t l hal) rfl rfl ?_
    conv=>whnf
    refine⟨?_, ?_, ?_⟩
    iterate 2 · repeat'(first|exact trivial|exact rfl|refine And.intro ?_ ?_|((conv=>whnf);first|exact trivial|exact rfl|refine And.intro ?_ ?_|omega))
    conv=>whnf
    cases hb:sealedF 2 l 22 with
    | false =>
     have hw3:w2=scanK i D[i] w1 (k+1):=by rw [hsc]; simp [scanSec,c2,hb]
     refine⟨fun hc=>absurd hc (by simp),fun hc=>?_⟩
     conv=>whnf
     conv=>whnf
     refine⟨_,wrapId ⟨by omega,by omega⟩, ?_⟩
     refine⟨(k+1,w2),⟨hkc,hw3⟩,by show 3 - (k+1) < 3 - k; omega, ?_⟩
     conv=>whnf
     refine⟨rfl, ?_⟩
     conv=>whnf
     repeat' (first | exact (aRow_ren rfl) | exact trivial | exact rfl | refine And.intro ?_ ?_ | ((conv=>whnf); first | exact (aRow_ren rfl) | exact trivial | exact rfl | refine And.intro ?_ ?_ | omega))
    | true =>
     have hw3:noteW w2 (subL l 22 30) (subL l 120 128) (frameT l)=scanK i D[i] w1 (k+1):=by rw [hsc]; simp [scanSec,c2,hb]
     refine⟨fun hc=>?_,fun hc=>absurd hc (by simp)⟩
     conv=>whnf
     refine slA_step (n:=128) (l:=l) tB_ok rfl rfl rfl rfl rfl rfl ⟨22,rfl,by decide,0,rfl,by decide, ?_⟩
     conv=>whnf
     refine b2s_step (fx:=some 128) (l:=l) tB_ok rfl rfl rfl rfl rfl rfl (by rw [subN_eq]; omega) ?_
     rw [show (l.drop 0).take (subN 22 0)=l.take 22 from by rw [subN_eq]; rfl]
     conv=>whnf
     refine cat_step (l:=[102]) (l':=l.take 22) rfl rfl rfl (by rw [List.length_take]; show 1+_≤_; omega) ?_
     conv=>whnf
     refine slA_step (n:=128) (l:=l) tB_ok rfl rfl rfl rfl rfl rfl ⟨120,rfl,by decide,30,rfl,by decide, ?_⟩
     conv=>whnf
     refine b2s_step (fx:=some 128) (l:=l) tB_ok rfl rfl rfl rfl rfl rfl (by rw [subN_eq]; omega) ?_
     rw [show (l.drop 30).take (subN 120 30)=(l.take 120).drop 30 from by rw [subN_eq,List.drop_take]]
     conv=>whnf
     refine cat_step (l:=[102] ++ l.take 22) (l':=(l.take 120).drop 30) rfl rfl rfl (by rw [List.length_append,List.length_take,List.length_drop,List.length_take]; show 1+_+_≤_; omega) ?_
     rw [show ([102] ++ l.take 22) ++ (l.take 120).drop 30=frameT l from rfl]
     generalize frameT l=tx at hw3 ⊢
     conv=>whnf
     refine slA_step (n:=128) (l:=l) tB_ok rfl rfl rfl rfl rfl rfl ⟨30,rfl,by decide,22,rfl,by decide, ?_⟩
     conv=>whnf
     refine b2s_step (fx:=some 128) (l:=l) tB_ok rfl rfl rfl rfl rfl rfl (by rw [subN_eq]; omega) ?_
     rw [show (l.drop 22).take (subN 30 22)=subL l 22 30 from by rw [subN_eq]; rfl]
     conv=>whnf
     refine call_step (xnote_t w2.front (subL l 22 30) tx) rfl rfl ?_
     conv=>whnf
     refine⟨?_, ?_, ?_⟩
     iterate 2 · repeat'(first|exact trivial|exact rfl|refine And.intro ?_ ?_|((conv=>whnf);first|exact trivial|exact rfl|refine And.intro ?_ ?_|omega))
     conv=>whnf
     refine slA_step (n:=128) (l:=l) tB_ok rfl rfl rfl rfl rfl rfl ⟨128,rfl,by decide,120,rfl,by decide, ?_⟩
     conv=>whnf
     refine b2s_step (fx:=some 128) (l:=l) tB_ok rfl rfl rfl rfl rfl rfl (by rw [subN_eq]; omega) ?_
     rw [show (l.drop 120).take (subN 128 120)=subL l 120 128 from by rw [subN_eq]; rfl]
     conv=>whnf
     refine call_step (xnote_t w2.back (subL l 120 128) tx) rfl rfl ?_
     conv=>whnf
     refine⟨?_, ?_, ?_⟩
     iterate 2 · repeat'(first|exact trivial|exact rfl|refine And.intro ?_ ?_|((conv=>whnf);first|exact trivial|exact rfl|refine And.intro ?_ ?_|omega))
     have e3:∀ c,(w2.clash || (noteC w2.front (subL l 22 30) tx || noteC w2.back (subL l 120 128) tx))=c → (⟨putSM w2.front (subL l 22 30) tx,putSM w2.back (subL l 120 128) tx,c⟩:Wt)=scanK i D[i] w1 (k+1):=fun c hc=>by rw [← hw3,← hc]; rfl
     generalize noteC w2.front (subL l 22 30) tx=n1 at e3 ⊢
     generalize noteC w2.back (subL l 120 128) tx=n2 at e3 ⊢
     generalize hcl:w2.clash=cl at e3 ⊢
     conv=>whnf
     cases cl with
     | true =>
      have hw3:=e3 true rfl
      conv=>whnf
      refine⟨fun hc=>?_,fun hc=>absurd hc (by simp)⟩
      conv=>whnf
      conv=>whnf
      refine⟨_,wrapId ⟨by omega,by omega⟩, ?_⟩
      refine⟨(k+1,_),⟨hkc,hw3⟩,by show 3 - (k+1) < 3 - k; omega, ?_⟩
      conv=>whnf
      refine⟨rfl, ?_⟩
      conv=>whnf
      repeat' (first | exact (aRow_ren rfl) | exact trivial | exact rfl | refine And.intro ?_ ?_ | ((conv=>whnf); first | exact (aRow_ren rfl) | exact trivial | exact rfl | refine And.intro ?_ ?_ | omega))
     | false =>
      conv=>whnf
      refine⟨fun hc=>absurd hc (by simp),fun hc=>?_⟩
      conv=>whnf
      cases n1 with
      | true =>
       have hw3:=e3 true rfl
       conv=>whnf
       refine⟨fun hc=>?_,fun hc=>absurd hc (by simp)⟩
       conv=>whnf
       conv=>whnf
       refine⟨_,wrapId ⟨by omega,by omega⟩, ?_⟩
       refine⟨(k+1,_),⟨hkc,hw3⟩,by show 3 - (k+1) < 3 - k; omega, ?_⟩
       conv=>whnf
       refine⟨rfl, ?_⟩
       conv=>whnf
       repeat' (first | exact (aRow_ren rfl) | exact trivial | exact rfl | refine And.intro ?_ ?_ | ((conv=>whnf); first | exact (aRow_ren rfl) | exact trivial | exact rfl | refine And.intro ?_ ?_ | omega))
      | false =>
       have hw3:=e3 n2 rfl
       conv=>whnf
       refine⟨fun hc=>absurd hc (by simp),fun hc=>?_⟩
       conv=>whnf
       conv=>whnf
       refine⟨_,wrapId ⟨by omega,by omega⟩, ?_⟩
       refine⟨(k+1,_),⟨hkc,hw3⟩,by show 3 - (k+1) < 3 - k; omega, ?_⟩
       conv=>whnf
       refine⟨rfl, ?_⟩
       conv=>whnf
       repeat' (first | exact (aRow_ren rfl) | exact trivial | exact rfl | refine And.intro ?_ ?_ | ((conv=>whnf); first | exact (aRow_ren rfl) | exact trivial | exact rfl | refine And.intro ?_ ?_ | omega))

end Go.Proofs

namespace Go.Proofs
open Go.Sx

abbrev xwH (own:Bool) (n:Nat) (D:Dk) (x:Xl) (ks:List Xk) (w:Wt):Heap :=
 [(5,own, .cells (shC n w.clash)),(0,own,dskC 1 n),(1,own,dkR 2 D),(2,own,dkB D),(3,own, .cells (xlC n x 4 ks.length)),(4,own, .arr (aXk ks)),(6,own,smO w.front),(7,own,smO w.back)]

def w00:Wt:=⟨[],[],false⟩

theorem xwatch_t (n:Nat) (hn:6≤n∧n≤65536) (hs:survF (newDk n) n=Sv0) (hg:greatF (newDk n) 2=0) (D:Dk) (hD:fmtD n=D) (hg1:greatF D 2=1) (hb:isBaseF (atD D 1) 1=true) (m0:Nat) (hs1:(survF D n).2.2=m0) (hm:m0 < 4294967295)
  (hf:(readB (atD D 1)).first.toNat≤1000) (x:Xl) (hx:xlOf D m0=x) (ks:List Xk) (hks:xrecs D x=ks) :
  Triple Tryz.prog 32 [iv .i64 n] [] 0 (.c (.p 5 0 0 0)) (xwH true n D x ks (scanN D w00 n)):=by
 have hl0:=newDk_length n
 have hl:D.length=n:=by rw [← hD]; exact fmtD_length n
 have hnd:=xnewDisk_t n ⟨by omega,hn.2⟩
 have hft:=xformat_t n hn hs hg
 rw [hl0] at hnd hft
 rw [hD] at hft
 have hop:=xopen_t D (by omega) hg1 hb m0 (by rw [hl]; exact hs1) hm hf
 rw [hx,hks] at hop
 dsimp only [dkH] at hop
 rw [hl] at hop
 have hsc:=xscan_t D (by omega) x ks w00
 dsimp only [shH,wtH] at hsc
 rw [hl] at hsc
 generalize newDk n=D0 at hnd hft
 generalize scanN D w00 n=w at hsc ⊢
 refine triple_of tB_ok Tryz.func32 rfl Tryz.call32 rfl ?_
 intro ρ w hH
 conv=>whnf
 refine call_step hnd rfl rfl ?_
 conv=>whnf
 refine⟨(by repeat' (first | exact (aRow_ren rfl) | exact trivial | exact rfl | refine And.intro ?_ ?_ | ((conv=>whnf); first | exact (aRow_ren rfl) | exact trivial | exact rfl | refine And.intro ?_ ?_ | omega))),(by repeat' (first | exact (aRow_ren rfl) | exact trivial | exact rfl | refine And.intro ?_ ?_ | ((conv=>whnf); first | exact (aRow_ren rfl) | exact trivial | exact rfl | refine And.intro ?_ ?_ | omega))), ?_⟩
 conv=>whnf
 rw [← aRow_ren rfl]
 refine call_step hft rfl rfl ?_
 conv=>whnf
 refine⟨(by repeat' (first | exact (aRow_ren rfl) | exact trivial | exact rfl | refine And.intro ?_ ?_ | ((conv=>whnf); first | exact (aRow_ren rfl) | exact trivial | exact rfl | refine And.intro ?_ ?_ | omega))),(by repeat' (first | exact (aRow_ren rfl) | exact trivial | exact rfl | refine And.intro ?_ ?_ | ((conv=>whnf); first | exact (aRow_ren rfl) | exact trivial | exact rfl | refine And.intro ?_ ?_ | omega))), ?_⟩
 conv=>whnf
 rw [← aRow_ren rfl]
 refine call_step hop rfl rfl ?_
 conv=>whnf
 refine⟨(by repeat' (first | exact (aRow_ren rfl) | exact trivial | exact rfl | refine And.intro ?_ ?_ | ((conv=>whnf); first | exact (aRow_ren rfl) | exact trivial | exact rfl | refine And.intro ?_ ?_ | omega))),(by repeat' (first | exact (aRow_ren rfl) | exact trivial | exact rfl | refine And.intro ?_ ?_ | ((conv=>whnf); first | exact (aRow_ren rfl) | exact trivial | exact rfl | refine And.intro ?_ ?_ | omega))), ?_⟩
 conv=>whnf
 refine mkmapT_step rfl ?_
 conv=>whnf
 refine mkmapT_step rfl ?_
 conv=>whnf
 refine call_step hsc rfl rfl ?_
 conv=>whnf
 refine⟨(by repeat' (first | exact (aRow_ren rfl) | exact trivial | exact rfl | refine And.intro ?_ ?_ | ((conv=>whnf); first | exact (aRow_ren rfl) | exact trivial | exact rfl | refine And.intro ?_ ?_ | omega))),(by repeat' (first | exact (aRow_ren rfl) | exact trivial | exact rfl | refine And.intro ?_ ?_ | ((conv=>whnf); first | exact (aRow_ren rfl) | exact trivial | exact rfl | refine And.intro ?_ ?_ | omega))), ?_⟩
 conv=>whnf
 repeat' (first | exact (aRow_ren rfl) | exact trivial | exact rfl | refine And.intro ?_ ?_ | ((conv=>whnf); first | exact (aRow_ren rfl) | exact trivial | exact rfl | refine And.intro ?_ ?_ | omega))

end Go.Proofs

namespace Go.Proofs
open Go.Sx

theorem xshAppend_t (D:Dk) (n:Nat) (hl:D.length=n) (hd:6≤n∧n≤65536) (x:Xl) (hss:x.sess≤4611686018427387904) (ks:List Xk) (hk:ks.length≤100000) (hbf:∀ i,i≤ks.length → framesF ks i≤1000000) (q:Nat) (link:List UInt8) (hq:x.first+framesF ks ks.length=q) (he:xlinkF x ks=link) (hlk:link.length=8)
  (hqb:q≤1000000) (s:List UInt8) (hsl:s.length≤6000) (hroom:framesF ks ks.length+nfr s≤n - 2) (hfree:Free D n q (nfr s)) (w:Wt) (a':Ap) (ha':apF n x.sess s ⟨D,q,link⟩ (nfr s)=a') (ks':List Xk) (hks:ks ++ [⟨s,nfr s,a'.link⟩]=ks') :
  Triple Tryz.prog 33 [.c (.p 5 0 0 0),strV s] (xwH true n D x ks w) 8 (iv .i64 0)
   [(0,true,dskC 1 n),(1,true,dkR 8 a'.D),(8,true,dkB a'.D),(3,true, .cells (xlC n x 9 ks'.length)),(9,true, .arr (aXk ks')),
    (5,true, .cells (shC n (scanN a'.D w n).clash)),(6,true,smO (scanN a'.D w n).front),(7,true,smO (scanN a'.D w n).back)]:=by
 have hI:=(apF_I (sess:=x.sess) (s:=s) (a:=⟨D,q,link⟩) (q0:=q) (m:=nfr s) (n:=n) ⟨hl,rfl,hlk,hfree⟩ (by omega) (nfr s) (Nat.le_refl _)).len
 rw [ha'] at hI
 have hap:=xappend_t D (by omega) x hss ks hk hbf q link hq he hlk hqb s hsl (by rw [hl]; exact hroom) (by rw [hl]; exact hfree)
 rw [hl,ha',hks] at hap
 have e1:ks.length+1=ks'.length:=by rw [← hks,List.length_append]; rfl
 rw [e1] at hap
 have hsc:=xscan_t a'.D (by omega) x ks' w
 dsimp only [shH,wtH] at hsc
 rw [hI] at hsc
 generalize scanN a'.D w n=w' at hsc ⊢
 refine triple_of tB_ok Tryz.func33 rfl Tryz.call33 rfl ?_
 intro ρ w hH
 conv=>whnf
 refine call_step hap rfl rfl ?_
 conv=>whnf
 refine⟨(by repeat' (first | exact (aRow_ren rfl) | exact trivial | exact rfl | refine And.intro ?_ ?_ | ((conv=>whnf); first | exact (aRow_ren rfl) | exact trivial | exact rfl | refine And.intro ?_ ?_ | omega))),(by repeat' (first | exact (aRow_ren rfl) | exact trivial | exact rfl | refine And.intro ?_ ?_ | ((conv=>whnf); first | exact (aRow_ren rfl) | exact trivial | exact rfl | refine And.intro ?_ ?_ | omega))), ?_⟩
 conv=>whnf
 rw [← aRow_ren rfl]
 refine call_step hsc rfl rfl ?_
 conv=>whnf
 refine⟨(by repeat' (first | exact (aRow_ren rfl) | exact trivial | exact rfl | refine And.intro ?_ ?_ | ((conv=>whnf); first | exact (aRow_ren rfl) | exact trivial | exact rfl | refine And.intro ?_ ?_ | omega))),(by repeat' (first | exact (aRow_ren rfl) | exact trivial | exact rfl | refine And.intro ?_ ?_ | ((conv=>whnf); first | exact (aRow_ren rfl) | exact trivial | exact rfl | refine And.intro ?_ ?_ | omega))), ?_⟩
 conv=>whnf
 repeat' (first | exact (aRow_ren rfl) | exact trivial | exact rfl | refine And.intro ?_ ?_ | ((conv=>whnf); first | exact (aRow_ren rfl) | exact trivial | exact rfl | refine And.intro ?_ ?_ | omega))

theorem xshCommit_t (D:Dk) (n:Nat) (hl:D.length=n) (hd:6≤n∧n≤65536) (x:Xl) (ks:List Xk) (w:Wt) :
  Triple Tryz.prog 35 [.c (.p 5 0 0 0)] (xwH true n D x ks w) 8 (iv .i64 0) (xwH true n (syncF D) x ks (scanN (syncF D) w n)):=by
 have hI:(syncF D).length=n:=by rw [syncF_length,hl]
 have hap:=xcommit_t D (by omega) x ks
 rw [hl] at hap
 have hsc:=xscan_t (syncF D) (by omega) x ks w
 dsimp only [shH,wtH] at hsc
 rw [hI] at hsc
 generalize scanN (syncF D) w n=w' at hsc ⊢
 generalize syncF D=D' at hap hsc ⊢
 refine triple_of tB_ok Tryz.func35 rfl Tryz.call35 rfl ?_
 intro ρ w hH
 conv=>whnf
 refine call_step hap rfl rfl ?_
 conv=>whnf
 refine⟨(by repeat' (first | exact (aRow_ren rfl) | exact trivial | exact rfl | refine And.intro ?_ ?_ | ((conv=>whnf); first | exact (aRow_ren rfl) | exact trivial | exact rfl | refine And.intro ?_ ?_ | omega))),(by repeat' (first | exact (aRow_ren rfl) | exact trivial | exact rfl | refine And.intro ?_ ?_ | ((conv=>whnf); first | exact (aRow_ren rfl) | exact trivial | exact rfl | refine And.intro ?_ ?_ | omega))), ?_⟩
 conv=>whnf
 rw [← aRow_ren rfl]
 refine call_step hsc rfl rfl ?_
 conv=>whnf
 refine⟨(by repeat' (first | exact (aRow_ren rfl) | exact trivial | exact rfl | refine And.intro ?_ ?_ | ((conv=>whnf); first | exact (aRow_ren rfl) | exact trivial | exact rfl | refine And.intro ?_ ?_ | omega))),(by repeat' (first | exact (aRow_ren rfl) | exact trivial | exact rfl | refine And.intro ?_ ?_ | ((conv=>whnf); first | exact (aRow_ren rfl) | exact trivial | exact rfl | refine And.intro ?_ ?_ | omega))), ?_⟩
 conv=>whnf
 repeat' (first | exact (aRow_ren rfl) | exact trivial | exact rfl | refine And.intro ?_ ?_ | ((conv=>whnf); first | exact (aRow_ren rfl) | exact trivial | exact rfl | refine And.intro ?_ ?_ | omega))

end Go.Proofs

namespace Go.Proofs
open Go.Sx

theorem xreopen_t (n:Nat) (hn:6≤n∧n≤65536) (D:Dk) (hl:D.length=n) (hg1:greatF D 2=1) (hb:isBaseF (atD D 1) 1=true) (m0:Nat) (hs1:(survF D n).2.2=m0) (hm:m0 < 4294967295)
  (hf:(readB (atD D 1)).first.toNat≤1000) (w:Wt) :
  Triple Tryz.prog 85 [.c (.p 5 0 0 0)] [(5,true, .cells [.p 0 0 0 0, .junk, .v (.int .i64 n), .m 6, .m 7, .v (.bool w.clash)]),(0,true,dskC 1 n),(1,true,dkR 2 D),(2,true,dkB D),(6,true,smO w.front),(7,true,smO w.back)] 8 (.tup [])
   [(5,true, .cells [.junk, .junk, .junk, .junk, .junk, .v (.bool (scanN D w n).clash)])]:=by
 have hop:=xopen_t D (by omega) hg1 hb m0 (by rw [hl]; exact hs1) hm hf
 generalize xlOf D m0=x at hop
 generalize xrecs D x=ks at hop
 dsimp only [dkH] at hop
 rw [hl] at hop
 have hsc:=xscan_t D (by omega) x ks w
 dsimp only [shH,wtH] at hsc
 rw [hl] at hsc
 generalize scanN D w n=w' at hsc ⊢
 refine triple_of tB_ok Tryz.func85 rfl Tryz.call85 rfl ?_
 intro ρ w hH
 conv=>whnf
 refine call_step hop rfl rfl ?_
 conv=>whnf
 refine⟨(by repeat' (first | exact (aRow_ren rfl) | exact trivial | exact rfl | refine And.intro ?_ ?_ | ((conv=>whnf); first | exact (aRow_ren rfl) | exact trivial | exact rfl | refine And.intro ?_ ?_ | omega))),(by repeat' (first | exact (aRow_ren rfl) | exact trivial | exact rfl | refine And.intro ?_ ?_ | ((conv=>whnf); first | exact (aRow_ren rfl) | exact trivial | exact rfl | refine And.intro ?_ ?_ | omega))), ?_⟩
 conv=>whnf
 refine⟨fun hc=>?_,fun hc=>absurd hc (by simp)⟩
 conv=>whnf
 refine call_step hsc rfl rfl ?_
 conv=>whnf
 refine⟨(by repeat' (first | exact (aRow_ren rfl) | exact trivial | exact rfl | refine And.intro ?_ ?_ | ((conv=>whnf); first | exact (aRow_ren rfl) | exact trivial | exact rfl | refine And.intro ?_ ?_ | omega))),(by repeat' (first | exact (aRow_ren rfl) | exact trivial | exact rfl | refine And.intro ?_ ?_ | ((conv=>whnf); first | exact (aRow_ren rfl) | exact trivial | exact rfl | refine And.intro ?_ ?_ | omega))), ?_⟩
 conv=>whnf
 repeat' (first | exact (aRow_ren rfl) | exact trivial | exact rfl | refine And.intro ?_ ?_ | ((conv=>whnf); first | exact (aRow_ren rfl) | exact trivial | exact rfl | refine And.intro ?_ ?_ | omega))

theorem xshCrash_t (n:Nat) (hn:6≤n∧n≤65536) (D:Dk) (hl:D.length=n) (keep:List Int) (hk:keep.length≤1000000) (hkb:∀ x ∈ keep,-9223372036854775808≤x∧x≤9223372036854775807) (D2:Dk) (hD:crashD keep D=D2)
  (hg1:greatF D2 2=1) (hb:isBaseF (atD D2 1) 1=true) (m0:Nat) (hs1:(survF D2 n).2.2=m0) (hm:m0 < 4294967295) (hf:(readB (atD D2 1)).first.toNat≤1000) (w:Wt) :
  Triple Tryz.prog 37 [.c (.p 5 0 0 0), .c (.s 8 0 keep.length 1)] [(5,true, .cells [.p 0 0 0 0, .junk, .v (.int .i64 n), .m 6, .m 7, .v (.bool w.clash)]),(0,true,dskC 1 n),(1,true,dkR 2 D),(2,true,dkB D),(6,true,smO w.front),(7,true,smO w.back),(8,false, .arr (aInt keep))] 9 (.tup [])
   [(5,true, .cells [.junk, .junk, .junk, .junk, .junk, .v (.bool (scanN D2 w n).clash)])]:=by
 have hl2:D2.length=n:=by rw [← hD,crashD_length,hl]
 have hcr:=xcrash_t D keep (by omega) hk hkb
 rw [hl,hD,hl2] at hcr
 have hre:=xreopen_t n hn D2 hl2 hg1 hb m0 hs1 hm hf w
 generalize scanN D2 w n=w' at hre ⊢
 refine triple_of tB_ok Tryz.func37 rfl Tryz.call37 rfl ?_
 intro ρ w hH
 conv=>whnf
 refine call_step hcr rfl rfl ?_
 conv=>whnf
 refine⟨(by repeat' (first | exact (aRow_ren rfl) | exact trivial | exact rfl | refine And.intro ?_ ?_ | ((conv=>whnf); first | exact (aRow_ren rfl) | exact trivial | exact rfl | refine And.intro ?_ ?_ | omega))),(by repeat' (first | exact (aRow_ren rfl) | exact trivial | exact rfl | refine And.intro ?_ ?_ | ((conv=>whnf); first | exact (aRow_ren rfl) | exact trivial | exact rfl | refine And.intro ?_ ?_ | omega))), ?_⟩
 conv=>whnf
 rw [← aRow_ren rfl]
 refine call_step hre rfl rfl ?_
 conv=>whnf
 refine⟨(by repeat' (first | exact (aRow_ren rfl) | exact trivial | exact rfl | refine And.intro ?_ ?_ | ((conv=>whnf); first | exact (aRow_ren rfl) | exact trivial | exact rfl | refine And.intro ?_ ?_ | omega))),(by repeat' (first | exact (aRow_ren rfl) | exact trivial | exact rfl | refine And.intro ?_ ?_ | ((conv=>whnf); first | exact (aRow_ren rfl) | exact trivial | exact rfl | refine And.intro ?_ ?_ | omega))), ?_⟩
 conv=>whnf
 repeat' (first | exact (aRow_ren rfl) | exact trivial | exact rfl | refine And.intro ?_ ?_ | ((conv=>whnf); first | exact (aRow_ren rfl) | exact trivial | exact rfl | refine And.intro ?_ ?_ | omega))

end Go.Proofs

