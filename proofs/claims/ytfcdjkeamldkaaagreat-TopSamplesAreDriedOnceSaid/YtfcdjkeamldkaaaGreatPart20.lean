/-
  A part of the proof that a law answers true: lemmas of a symbolic walk, plain functions, or contracts of the functions walked (EH, EI). Conditions: none.
-/
import Derived.Test.YtfcdjkeamldkaaaGreatPart19
set_option maxRecDepth 100000
set_option linter.unusedVariables false
set_option linter.unusedSimpArgs false
namespace Go.Proofs
open Go.Sx
theorem cw5(v:Wv)(hb:WvB v)(id:Int)(i:Nat)(hi:YU (Xx id) 0 v.mail=i)(x:Slp)(hx:v.mail[i]? = some x)(hk:ae0 x.kind=false)(s:Stn)(hs:StnV s)(j:Nat)(hj6:j<6)(hst:x.st=(j:Int)+1)(hj:v.os[j]? = some none) :
 Triple Tryz.prog 106 [.c (.p 0 0 0 0),iv .i64 id] (wvH v++[(6,false, .cells [.junk, .junk, .junk, .v (.int .i64 s.num), .m 7, .m 8]),(7,true,Jw false 2 s.grants),(8,true,Jw false 2 s.goes)]) 9
  (iv .i64 (JK s x).err) (wvP 9 (VB v i)++[(7,true,Jw false 2 (JK s x).grants),(8,true,Jw false 2 (JK s x).goes)]):=by
 have htk:=az1 v hb.mail id i hi x hx;have hjl:j<v.os.length:=(List.getElem?_eq_some_iff.1 hj).1;have hsh:=cw0 s hs x;simp only[ae0,Bool.or_eq_false_iff]at hk;obtain⟨b1,b4,b6,b7⟩:=hk;refine Jc Ja Tryz.func106 rfl Tryz.call106 rfl ?_;intro ρ w hH;conv=>whnf
 refine Jb htk rfl rfl ?_;conv=>whnf
 refine VL ?_;conv=>whnf
 repeat ((first|refine qT fun hc=>?_|refine qF fun hc=>?_);conv=>whnf)
 refine⟨(j:Int),by rw[hst,Int.add_sub_cancel];exact wO, ?_⟩;conv=>whnf
 refine⟨j,rfl,hjl,hjl, ?_⟩;conv=>whnf
 erw[KC hj];refine Jb hsh rfl rfl ?_;conv=>whnf
 refine cs ?_;conv=>whnf
 exact cl
abbrev XS(v:Wv):Je:=wvX true true true true true v
abbrev XN(n:Nat)(W:Wv)(d:Dsk)(pu:Mp):Je:=[(0,true,bf4 n W),(n,true, .arr (Xw W.mail)),(1,true,VZ 5 d),(4,true,Jw false 2 pu),(5,true,Jw true 2 d.known)]
theorem cj9(v:Wv)(hb:WvB v)(a b mass:Int)(k:Ky) :
 Triple Tryz.prog 17 [.c (.p 0 0 0 0),YM 1 a b k mass] (XS v++Yz) 7 (iv .i64 (if v.now=1000000 then 2 else 0)) (XN 7 (if v.now=1000000 then v else { v with now:=v.now+1 }) v.d v.puts):=by
 have hn:=hb.now;by_cases h:v.now=1000000
 ·have e:=YI h;rw[if_pos h,if_pos h];refine Jc Ja Tryz.func17 rfl Tryz.call17 rfl ?_;intro ρ w hH;conv=>whnf
  repeat ((first|refine qT fun hc=>?_|refine qF fun hc=>?_);conv=>whnf)
  exact cl
 ·have e:=JG h;rw[if_neg h,if_neg h];refine Jc Ja Tryz.func17 rfl Tryz.call17 rfl ?_;intro ρ w hH;conv=>whnf
  repeat ((first|refine qT fun hc=>?_|refine qF fun hc=>?_);conv=>whnf)
  refine⟨_,wO, ?_⟩;conv=>whnf
  exact cl
theorem bt0(v:Wv)(hb:WvB v)(a b mass:Int)(k:Ky)(r:Int×Wv)(hr:YU (Xx a) 0 v.mail=-1∧r=(5,v)∨∃i s,YU (Xx a) 0 v.mail=(i:Nat)∧v.mail[i]? = some s∧r=(0,VB v i)) :
 Triple Tryz.prog 17 [.c (.p 0 0 0 0),YM 8 a b k mass] (XS v++Yz) 7 (iv .i64 r.1) (XN 7 r.2 v.d v.puts):=by
 rcases hr with ⟨hi,rfl⟩|⟨i,s,hi,hs,rfl⟩
 ·have htk:=bs8 v hb.mail a hi;refine Jc Ja Tryz.func17 rfl Tryz.call17 rfl ?_;intro ρ w hH;conv=>whnf
  repeat ((first|refine qT fun hc=>?_|refine qF fun hc=>?_);conv=>whnf)
  refine Jb htk rfl rfl ?_;conv=>whnf
  refine VL ?_;conv=>whnf
  exact cl
 ·have htk:=az1 v hb.mail a i hi s hs;refine Jc Ja Tryz.func17 rfl Tryz.call17 rfl ?_;intro ρ w hH;conv=>whnf
  repeat ((first|refine qT fun hc=>?_|refine qF fun hc=>?_);conv=>whnf)
  refine Jb htk rfl rfl ?_;conv=>whnf
  refine VL ?_;conv=>whnf
  exact cl
theorem ck0(v:Wv)(hd:Yk 5 v.d.known)(a b mass:Int)(k:Ky) :
 Triple Tryz.prog 17 [.c (.p 0 0 0 0),YM 11 a b k mass] (XS v++Yz) 7 (iv .i64 (ad9 v.d v.now k).1) (XN 7 v (ad9 v.d v.now k).2 v.puts):=by
 have hl:=cD6 v.d hd v.now k;refine Jc Ja Tryz.func17 rfl Tryz.call17 rfl ?_;intro ρ w hH;conv=>whnf
 repeat ((first|refine qT fun hc=>?_|refine qF fun hc=>?_);conv=>whnf)
 refine Jb hl rfl rfl ?_;conv=>whnf
 refine cs ?_;conv=>whnf
 exact cl
theorem ck1(v:Wv)(kd a b mass:Int)(k:Ky)(h:kd<1∨11<kd) :
 Triple Tryz.prog 17 [.c (.p 0 0 0 0),YM kd a b k mass] (XS v++Yz) 7 (iv .i64 1) (XN 7 v v.d v.puts):=by
 have n1:=JG (a:=kd) (b:=1) (by omega);have n2:=JG (a:=kd) (b:=2) (by omega);have n3:=JG (a:=kd) (b:=3) (by omega);have n4:=JG (a:=kd) (b:=4) (by omega);have n5:=JG (a:=kd) (b:=5) (by omega);have n6:=JG (a:=kd) (b:=6) (by omega);have n7:=JG (a:=kd) (b:=7) (by omega);have n8:=JG (a:=kd) (b:=8) (by omega);have n9:=JG (a:=kd) (b:=9) (by omega);have n10:=JG (a:=kd) (b:=10) (by omega);have n11:=JG (a:=kd) (b:=11) (by omega);refine Jc Ja Tryz.func17 rfl Tryz.call17 rfl ?_;intro ρ w hH;conv=>whnf
 repeat ((first|refine qT fun hc=>?_|refine qF fun hc=>?_);conv=>whnf)
 exact cl
theorem ck2(v:Wv)(a b mass:Int)(k:Ky)(h:Jf a 1 v.os.length=false) :
 Triple Tryz.prog 17 [.c (.p 0 0 0 0),YM 2 a b k mass] (XS v++Yz) 7 (iv .i64 1) (XN 7 v v.d v.puts):=by
 have hw:=JA a 1 v.os.length;rw[h]at hw;refine Jc Ja Tryz.func17 rfl Tryz.call17 rfl ?_;intro ρ w hH;conv=>whnf
 repeat ((first|refine qT fun hc=>?_|refine qF fun hc=>?_);conv=>whnf)
 refine Jb hw rfl rfl ?_;conv=>whnf
 refine cs ?_;conv=>whnf
 repeat ((first|refine qT fun hc=>?_|refine qF fun hc=>?_);conv=>whnf)
 exact cl
theorem ck3(v:Wv)(a b mass:Int)(k:Ky)(h:Jf a 1 v.os.length=false) :
 Triple Tryz.prog 17 [.c (.p 0 0 0 0),YM 3 a b k mass] (XS v++Yz) 7 (iv .i64 1) (XN 7 v v.d v.puts):=by
 have hw:=JA a 1 v.os.length;rw[h]at hw;refine Jc Ja Tryz.func17 rfl Tryz.call17 rfl ?_;intro ρ w hH;conv=>whnf
 repeat ((first|refine qT fun hc=>?_|refine qF fun hc=>?_);conv=>whnf)
 refine Jb hw rfl rfl ?_;conv=>whnf
 refine cs ?_;conv=>whnf
 repeat ((first|refine qT fun hc=>?_|refine qF fun hc=>?_);conv=>whnf)
 exact cl
theorem ck4(v:Wv)(a b mass:Int)(k:Ky)(h:Jf a 1 v.os.length=false) :
 Triple Tryz.prog 17 [.c (.p 0 0 0 0),YM 4 a b k mass] (XS v++Yz) 7 (iv .i64 1) (XN 7 v v.d v.puts):=by
 have hw:=JA a 1 v.os.length;rw[h]at hw;refine Jc Ja Tryz.func17 rfl Tryz.call17 rfl ?_;intro ρ w hH;conv=>whnf
 repeat ((first|refine qT fun hc=>?_|refine qF fun hc=>?_);conv=>whnf)
 refine Jb hw rfl rfl ?_;conv=>whnf
 refine cs ?_;conv=>whnf
 repeat ((first|refine qT fun hc=>?_|refine qF fun hc=>?_);conv=>whnf)
 exact cl
theorem ck5(v:Wv)(a b mass:Int)(k:Ky)(h:Jf a 1 v.os.length=false) :
 Triple Tryz.prog 17 [.c (.p 0 0 0 0),YM 5 a b k mass] (XS v++Yz) 7 (iv .i64 1) (XN 7 v v.d v.puts):=by
 have hw:=JA a 1 v.os.length;rw[h]at hw;refine Jc Ja Tryz.func17 rfl Tryz.call17 rfl ?_;intro ρ w hH;conv=>whnf
 repeat ((first|refine qT fun hc=>?_|refine qF fun hc=>?_);conv=>whnf)
 refine Jb hw rfl rfl ?_;conv=>whnf
 refine cs ?_;conv=>whnf
 repeat ((first|refine qT fun hc=>?_|refine qF fun hc=>?_);conv=>whnf)
 exact cl
theorem ck6(v:Wv)(a b mass:Int)(k:Ky)(h:Jf a 1 v.os.length=false) :
 Triple Tryz.prog 17 [.c (.p 0 0 0 0),YM 6 a b k mass] (XS v++Yz) 7 (iv .i64 1) (XN 7 v v.d v.puts):=by
 have hw:=JA a 1 v.os.length;rw[h]at hw;refine Jc Ja Tryz.func17 rfl Tryz.call17 rfl ?_;intro ρ w hH;conv=>whnf
 repeat ((first|refine qT fun hc=>?_|refine qF fun hc=>?_);conv=>whnf)
 refine Jb hw rfl rfl ?_;conv=>whnf
 refine cs ?_;conv=>whnf
 repeat ((first|refine qT fun hc=>?_|refine qF fun hc=>?_);conv=>whnf)
 exact cl
theorem bX3(v:Wv)(a b mass:Int)(k:Ky)(h:Jf a 1 v.os.length=false) :
 Triple Tryz.prog 17 [.c (.p 0 0 0 0),YM 10 a b k mass] (XS v++Yz) 7 (iv .i64 1) (XN 7 v v.d v.puts):=by
 have hw:=JA a 1 v.os.length;rw[h]at hw;refine Jc Ja Tryz.func17 rfl Tryz.call17 rfl ?_;intro ρ w hH;conv=>whnf
 repeat ((first|refine qT fun hc=>?_|refine qF fun hc=>?_);conv=>whnf)
 refine Jb hw rfl rfl ?_;conv=>whnf
 refine cs ?_;conv=>whnf
 repeat ((first|refine qT fun hc=>?_|refine qF fun hc=>?_);conv=>whnf)
 exact cl
theorem bX4(v:Wv)(a b mass:Int)(k:Ky)(h:300≤v.sent) :
 Triple Tryz.prog 17 [.c (.p 0 0 0 0),YM 7 a b k mass] (XS v++Yz) 7 (iv .i64 2) (XN 7 v v.d v.puts):=by
 have d1:decide (300≤v.sent)=true:=decide_eq_true h;refine Jc Ja Tryz.func17 rfl Tryz.call17 rfl ?_;intro ρ w hH;conv=>whnf
 repeat ((first|refine qT fun hc=>?_|refine qF fun hc=>?_);conv=>whnf)
 exact cl
theorem bX5(v:Wv)(a b mass:Int)(k:Ky)(h:300≤v.sent) :
 Triple Tryz.prog 17 [.c (.p 0 0 0 0),YM 9 a b k mass] (XS v++Yz) 7 (iv .i64 2) (XN 7 v v.d v.puts):=by
 have d1:decide (300≤v.sent)=true:=decide_eq_true h;refine Jc Ja Tryz.func17 rfl Tryz.call17 rfl ?_;intro ρ w hH;conv=>whnf
 repeat ((first|refine qT fun hc=>?_|refine qF fun hc=>?_);conv=>whnf)
 exact cl
theorem bX6(v:Wv)(a b mass:Int)(k:Ky)(h:300≤v.sent)(ha:Jf a 1 v.os.length=true) :
 Triple Tryz.prog 17 [.c (.p 0 0 0 0),YM 2 a b k mass] (XS v++Yz) 7 (iv .i64 2) (XN 7 v v.d v.puts):=by
 have d1:decide (300≤v.sent)=true:=decide_eq_true h;have hw:=JA a 1 v.os.length;rw[ha]at hw;refine Jc Ja Tryz.func17 rfl Tryz.call17 rfl ?_;intro ρ w hH;conv=>whnf
 repeat ((first|refine qT fun hc=>?_|refine qF fun hc=>?_);conv=>whnf)
 refine Jb hw rfl rfl ?_;conv=>whnf
 refine cs ?_;conv=>whnf
 repeat ((first|refine qT fun hc=>?_|refine qF fun hc=>?_);conv=>whnf)
 exact cl
theorem bX7(v:Wv)(a b mass:Int)(k:Ky)(h:300≤v.sent)(ha:Jf a 1 v.os.length=true) :
 Triple Tryz.prog 17 [.c (.p 0 0 0 0),YM 3 a b k mass] (XS v++Yz) 7 (iv .i64 2) (XN 7 v v.d v.puts):=by
 have d1:decide (300≤v.sent)=true:=decide_eq_true h;have hw:=JA a 1 v.os.length;rw[ha]at hw;refine Jc Ja Tryz.func17 rfl Tryz.call17 rfl ?_;intro ρ w hH;conv=>whnf
 repeat ((first|refine qT fun hc=>?_|refine qF fun hc=>?_);conv=>whnf)
 refine Jb hw rfl rfl ?_;conv=>whnf
 refine cs ?_;conv=>whnf
 repeat ((first|refine qT fun hc=>?_|refine qF fun hc=>?_);conv=>whnf)
 exact cl
theorem bX8(v:Wv)(a b mass:Int)(k:Ky)(h:300≤v.sent)(ha:Jf a 1 v.os.length=true) :
 Triple Tryz.prog 17 [.c (.p 0 0 0 0),YM 4 a b k mass] (XS v++Yz) 7 (iv .i64 2) (XN 7 v v.d v.puts):=by
 have d1:decide (300≤v.sent)=true:=decide_eq_true h;have hw:=JA a 1 v.os.length;rw[ha]at hw;refine Jc Ja Tryz.func17 rfl Tryz.call17 rfl ?_;intro ρ w hH;conv=>whnf
 repeat ((first|refine qT fun hc=>?_|refine qF fun hc=>?_);conv=>whnf)
 refine Jb hw rfl rfl ?_;conv=>whnf
 refine cs ?_;conv=>whnf
 repeat ((first|refine qT fun hc=>?_|refine qF fun hc=>?_);conv=>whnf)
 exact cl
theorem bX9(v:Wv)(a b mass:Int)(k:Ky)(h:300≤v.sent)(ha:Jf a 1 v.os.length=true) :
 Triple Tryz.prog 17 [.c (.p 0 0 0 0),YM 6 a b k mass] (XS v++Yz) 7 (iv .i64 2) (XN 7 v v.d v.puts):=by
 have d1:decide (300≤v.sent)=true:=decide_eq_true h;have hw:=JA a 1 v.os.length;rw[ha]at hw;refine Jc Ja Tryz.func17 rfl Tryz.call17 rfl ?_;intro ρ w hH;conv=>whnf
 repeat ((first|refine qT fun hc=>?_|refine qF fun hc=>?_);conv=>whnf)
 refine Jb hw rfl rfl ?_;conv=>whnf
 refine cs ?_;conv=>whnf
 repeat ((first|refine qT fun hc=>?_|refine qF fun hc=>?_);conv=>whnf)
 exact cl
theorem VI{n i:Nat}(h:i<n):Jf ((i:Int)+1) 1 n=true:=by simp[Jf];omega
theorem cw6(v:Wv)(hb:WvB v)(hs3:v.sent<300)(s:Stn)(hs:StnV s)(i:Nat)(hil6:i<6)(hi:v.os[i]? = some none)(b mass:Int)(k:Ky) :
 Triple Tryz.prog 17 [.c (.p 0 0 0 0),YM 2 ((i:Int)+1) b k mass]
  (XS v++[(6,false, .cells [.junk, .junk, .m 7, .v (.int .i64 s.num), .m 8, .m 9]),(7,false,Jw true 2 s.did),(8,false,Jw false 2 s.grants),(9,false,Jw false 2 s.goes)]) 10
  (iv .i64 (Xs v (Uo s k)).1) (XN 10 (Xs v (Uo s k)).2 v.d v.puts):=by
 have hil:i<v.os.length:=(List.getElem?_eq_some_iff.1 hi).1;have hw:=JA ((i:Int)+1) 1 v.os.length;rw[VI hil]at hw;have d1:decide (300≤v.sent)=false:=decide_eq_false (by omega);have hm:=bM3 v hb s hs i hil6 hi b mass k;generalize Xs v (Uo s k)=R at hm;obtain⟨er,W⟩:=R;refine Jc Ja Tryz.func17 rfl Tryz.call17 rfl ?_;intro ρ w hH;conv=>whnf
 repeat ((first|refine qT fun hc=>?_|refine qF fun hc=>?_);conv=>whnf)
 refine Jb hw rfl rfl ?_;conv=>whnf
 refine cs ?_;conv=>whnf
 repeat ((first|refine qT fun hc=>?_|refine qF fun hc=>?_);conv=>whnf)
 refine Jb hm rfl rfl ?_;conv=>whnf
 refine VL ?_;conv=>whnf
 exact cl
theorem cw7(v:Wv)(hb:WvB v)(hs3:v.sent<300)(s:Stn)(hs:StnV s)(i:Nat)(hil6:i<6)(hi:v.os[i]? = some none)(b mass:Int)(k:Ky) :
 Triple Tryz.prog 17 [.c (.p 0 0 0 0),YM 3 ((i:Int)+1) b k mass]
  (XS v++[(6,false, .cells [.junk, .junk, .m 7, .v (.int .i64 s.num), .m 8, .m 9]),(7,false,Jw true 2 s.did),(8,false,Jw false 2 s.grants),(9,false,Jw false 2 s.goes)]) 10
  (iv .i64 (Xs v (Xh s k)).1) (XN 10 (Xs v (Xh s k)).2 v.d v.puts):=by
 have hil:i<v.os.length:=(List.getElem?_eq_some_iff.1 hi).1;have hw:=JA ((i:Int)+1) 1 v.os.length;rw[VI hil]at hw;have d1:decide (300≤v.sent)=false:=decide_eq_false (by omega);have hm:=bM4 v hb s hs i hil6 hi b mass k;generalize Xs v (Xh s k)=R at hm;obtain⟨er,W⟩:=R;refine Jc Ja Tryz.func17 rfl Tryz.call17 rfl ?_;intro ρ w hH;conv=>whnf
 repeat ((first|refine qT fun hc=>?_|refine qF fun hc=>?_);conv=>whnf)
 refine Jb hw rfl rfl ?_;conv=>whnf
 refine cs ?_;conv=>whnf
 repeat ((first|refine qT fun hc=>?_|refine qF fun hc=>?_);conv=>whnf)
 refine Jb hm rfl rfl ?_;conv=>whnf
 refine VL ?_;conv=>whnf
 exact cl
theorem cw8(v:Wv)(hb:WvB v)(hs3:v.sent<300)(s:Stn)(hs:StnV s)(i:Nat)(hil6:i<6)(hi:v.os[i]? = some none)(b mass:Int)(k:Ky) :
 Triple Tryz.prog 17 [.c (.p 0 0 0 0),YM 4 ((i:Int)+1) b k mass]
  (XS v++[(6,false, .cells [.junk, .junk, .m 7, .v (.int .i64 s.num), .m 8, .m 9]),(7,false,Jw true 2 s.did),(8,true,Jw false 2 s.grants),(9,false,Jw false 2 s.goes)]) 10
  (iv .i64 (Xs v ((Vh s k).1)).1) (XN 10 (Xs v ((Vh s k).1)).2 v.d v.puts++[(8,true,Jw false 2 (Vh s k).2)]):=by
 have hil:i<v.os.length:=(List.getElem?_eq_some_iff.1 hi).1;have hw:=JA ((i:Int)+1) 1 v.os.length;rw[VI hil]at hw;have d1:decide (300≤v.sent)=false:=decide_eq_false (by omega);have hm:=bM5 v hb s hs i hil6 hi b mass k;generalize Xs v ((Vh s k).1)=R at hm;obtain⟨er,W⟩:=R;refine Jc Ja Tryz.func17 rfl Tryz.call17 rfl ?_;intro ρ w hH;conv=>whnf
 repeat ((first|refine qT fun hc=>?_|refine qF fun hc=>?_);conv=>whnf)
 refine Jb hw rfl rfl ?_;conv=>whnf
 refine cs ?_;conv=>whnf
 repeat ((first|refine qT fun hc=>?_|refine qF fun hc=>?_);conv=>whnf)
 refine Jb hm rfl rfl ?_;conv=>whnf
 refine VL ?_;conv=>whnf
 exact cl
theorem cw9(v:Wv)(hb:WvB v)(hs3:v.sent<300)(num:Int)(did:Mp)(hv:Yk 3 did)(i:Nat)(hil6:i<6)(hi:v.os[i]? = some none)(b mass:Int)(k:Ky)(hno:Jf mass 0 10000000=true→JP did k=true→(Ye did k).2.1<0) :
 Triple Tryz.prog 17 [.c (.p 0 0 0 0),YM 6 ((i:Int)+1) b k mass]
  (XS v++[(6,false, .cells [.junk, .junk, .m 7, .v (.int .i64 num), .junk, .junk]),(7,false,Jw true 2 did)]) 8
  (iv .i64 (Xs v (Up num did k mass)).1) (XN 8 (Xs v (Up num did k mass)).2 v.d v.puts):=by
 have hil:i<v.os.length:=(List.getElem?_eq_some_iff.1 hi).1;have hw:=JA ((i:Int)+1) 1 v.os.length;rw[VI hil]at hw;have d1:decide (300≤v.sent)=false:=decide_eq_false (by omega);have hm:=bM6 v hb num did hv i hil6 hi b mass k hno;generalize Xs v (Up num did k mass)=R at hm;obtain⟨er,W⟩:=R;refine Jc Ja Tryz.func17 rfl Tryz.call17 rfl ?_;intro ρ w hH;conv=>whnf
 repeat ((first|refine qT fun hc=>?_|refine qF fun hc=>?_);conv=>whnf)
 refine Jb hw rfl rfl ?_;conv=>whnf
 refine cs ?_;conv=>whnf
 repeat ((first|refine qT fun hc=>?_|refine qF fun hc=>?_);conv=>whnf)
 refine Jb hm rfl rfl ?_;conv=>whnf
 refine VL ?_;conv=>whnf
 exact cl
theorem bY0(v:Wv)(hb:WvB v)(hs3:v.sent<300)(num:Int)(did:Mp)(hv:Yk 3 did)(i:Nat)(hil6:i<6)(hi:v.os[i]? = some none)(b mass:Int)(k:Ky)
 (os:List (Option Value)) (ov:List Ky) (ho:ov.length≤100000) (j:Nat) (hj:os[j]? = some none) (hu:∀i,os[i]? = some none→i=j)
 (h1:Jf mass 0 10000000=true) (h2:JP did k=true) (h3:(Ye did k).2.1=j) :
 Triple Tryz.prog 17 [.c (.p 0 0 0 0),YM 6 ((i:Int)+1) b k mass]
  (XS v++[(6,false, .cells [.junk, .s 7 0 os.length 1, .m 8, .v (.int .i64 num), .junk, .junk]),(7,true, .arr (Gv 9 ov.length os)),(8,true,Jw true 2 did),(9,true, .arr (Vn ov))]) 10
  (iv .i64 0) (XN 10 (KB v ⟨0,7,num,k,(Ye did k).1,mass⟩) v.d v.puts++[(7,true, .arr (Gv 9 (GJ k ov).length os)),(8,true,Jw true 2 (did.put (Qb k) [(Ye did k).1,-1,mass])),(9,true, .arr (Vn (GJ k ov)))]):=by
 have hil:i<v.os.length:=(List.getElem?_eq_some_iff.1 hi).1;have hw:=JA ((i:Int)+1) 1 v.os.length;rw[VI hil]at hw;have d1:decide (300≤v.sent)=false:=decide_eq_false (by omega);have hm:=bs9 v hb num did hv i hil6 hi b mass k os ov ho j hj hu h1 h2 h3;refine Jc Ja Tryz.func17 rfl Tryz.call17 rfl ?_;intro ρ w hH;conv=>whnf
 repeat ((first|refine qT fun hc=>?_|refine qF fun hc=>?_);conv=>whnf)
 refine Jb hw rfl rfl ?_;conv=>whnf
 refine cs ?_;conv=>whnf
 repeat ((first|refine qT fun hc=>?_|refine qF fun hc=>?_);conv=>whnf)
 refine Jb hm rfl rfl ?_;conv=>whnf
 refine⟨cl1,(by repeat' (first|exact first|exact ac2 rfl|exact XM rfl|exact trivial|exact rfl|refine And.intro ?_ ?_|((conv=>whnf);first|exact first|exact ac2 rfl|exact XM rfl|exact trivial|exact rfl|refine And.intro ?_ ?_|omega))), ?_⟩;conv=>whnf
 rw[←XM rfl];conv=>whnf
 repeat' (first|exact(XM rfl)|exact trivial|exact rfl|refine And.intro ?_ ?_|((conv=>whnf);first|exact(XM rfl)|exact trivial|exact rfl|refine And.intro ?_ ?_|omega))
theorem cx0(v:Wv)(hb:WvB v)(hs3:v.sent<300)(a b mass:Int)(k:Ky)(x:Slp×Int)(hx:YU (Xx a) 0 v.mail=-1∧x=(VS,5)∨∃i s,YU (Xx a) 0 v.mail=(i:Nat)∧v.mail[i]? = some s∧x=(s,0)) :
 Triple Tryz.prog 17 [.c (.p 0 0 0 0),YM 9 a b k mass] (XS v++Yz) 7 (iv .i64 (Xs v x).1) (XN 7 (Xs v x).2 v.d v.puts):=by
 have d1:decide (300≤v.sent)=false:=decide_eq_false (by omega);have hm:=bM7 v hb a b mass k x hx;generalize Xs v x=R at hm;obtain⟨er,W⟩:=R;refine Jc Ja Tryz.func17 rfl Tryz.call17 rfl ?_;intro ρ w hH;conv=>whnf
 repeat ((first|refine qT fun hc=>?_|refine qF fun hc=>?_);conv=>whnf)
 refine Jb hm rfl rfl ?_;conv=>whnf
 refine VL ?_;conv=>whnf
 exact cl
theorem bY1(v:Wv)(hb:WvB v)(hs3:v.sent<300)(id b mass:Int)(k:Ky)(hi:YU (Xx id) 0 v.mail=-1) :
 Triple Tryz.prog 17 [.c (.p 0 0 0 0),YM 7 id b k mass] (XS v++Yz) 7 (iv .i64 5) (XN 7 v v.d v.puts):=by
 have hm:=cw4 v hb id hi;have d1:decide (300≤v.sent)=false:=decide_eq_false (by omega);have hml:Triple Tryz.prog 52 [.c (.p 0 0 0 0),YM 7 id b k mass] (wvR v++Yz) 7 (iv .i64 5) ([]):=by
  refine Jc Ja Tryz.func52 rfl Tryz.call52 rfl ?_;intro ρ w hH;conv=>whnf
  repeat ((first|refine qT fun hc=>?_|refine qF fun hc=>?_);conv=>whnf)
  refine Jb hm rfl rfl ?_;conv=>whnf
  refine VL ?_;conv=>whnf
  exact cl
 refine Jc Ja Tryz.func17 rfl Tryz.call17 rfl ?_;intro ρ w hH;conv=>whnf
 repeat ((first|refine qT fun hc=>?_|refine qF fun hc=>?_);conv=>whnf)
 refine Jb hml rfl rfl ?_;conv=>whnf
 refine VL ?_;conv=>whnf
 exact cl
theorem bt1(v:Wv)(hb:WvB v)(hs3:v.sent<300)(hd:DskB v.d)(id b mass:Int)(k:Ky)(i:Nat)(hi:YU (Xx id) 0 v.mail=i)(s:Slp)(hs:v.mail[i]? = some s)(hk:s.kind=1) :
 Triple Tryz.prog 17 [.c (.p 0 0 0 0),YM 7 id b k mass] (XS v++Yz) 7 (iv .i64 0) (XN 7 (Yu v i s) (Yu v i s).d v.puts):=by
 have hm:=bM8 v hb hd id i hi s hs hk;generalize Yu v i s=W at hm;have d1:decide (300≤v.sent)=false:=decide_eq_false (by omega);have hml:Triple Tryz.prog 52 [.c (.p 0 0 0 0),YM 7 id b k mass] (aL9 v++Yz) 7 (iv .i64 0) (wvP 7 W++[(1,true,VZ 5 W.d),(5,true,Jw true 2 W.d.known)]):=by
  refine Jc Ja Tryz.func52 rfl Tryz.call52 rfl ?_;intro ρ w hH;conv=>whnf
  repeat ((first|refine qT fun hc=>?_|refine qF fun hc=>?_);conv=>whnf)
  refine Jb hm rfl rfl ?_;conv=>whnf
  refine VL ?_;conv=>whnf
  exact cl
 refine Jc Ja Tryz.func17 rfl Tryz.call17 rfl ?_;intro ρ w hH;conv=>whnf
 repeat ((first|refine qT fun hc=>?_|refine qF fun hc=>?_);conv=>whnf)
 refine Jb hml rfl rfl ?_;conv=>whnf
 refine VL ?_;conv=>whnf
 exact cl
theorem bt2(v:Wv)(hb:WvB v)(hs3:v.sent<300)(hd:DskB v.d)(id b mass:Int)(k:Ky)(i:Nat)(hi:YU (Xx id) 0 v.mail=i)(s:Slp)(hs:v.mail[i]? = some s)(hk:s.kind=4) :
 Triple Tryz.prog 17 [.c (.p 0 0 0 0),YM 7 id b k mass] (XS v++Yz) 7 (iv .i64 0) (XN 7 (Yu v i s) (Yu v i s).d v.puts):=by
 have hm:=bM9 v hb hd id i hi s hs hk;generalize Yu v i s=W at hm;have d1:decide (300≤v.sent)=false:=decide_eq_false (by omega);have hml:Triple Tryz.prog 52 [.c (.p 0 0 0 0),YM 7 id b k mass] (aL9 v++Yz) 7 (iv .i64 0) (wvP 7 W++[(1,true,VZ 5 W.d),(5,true,Jw true 2 W.d.known)]):=by
  refine Jc Ja Tryz.func52 rfl Tryz.call52 rfl ?_;intro ρ w hH;conv=>whnf
  repeat ((first|refine qT fun hc=>?_|refine qF fun hc=>?_);conv=>whnf)
  refine Jb hm rfl rfl ?_;conv=>whnf
  refine VL ?_;conv=>whnf
  exact cl
 refine Jc Ja Tryz.func17 rfl Tryz.call17 rfl ?_;intro ρ w hH;conv=>whnf
 repeat ((first|refine qT fun hc=>?_|refine qF fun hc=>?_);conv=>whnf)
 refine Jb hml rfl rfl ?_;conv=>whnf
 refine VL ?_;conv=>whnf
 exact cl
theorem bt3(v:Wv)(hb:WvB v)(hs3:v.sent<300)(hd:DskB v.d)(id b mass:Int)(k:Ky)(i:Nat)(hi:YU (Xx id) 0 v.mail=i)(s:Slp)(hs:v.mail[i]? = some s)(hk:s.kind=6) :
 Triple Tryz.prog 17 [.c (.p 0 0 0 0),YM 7 id b k mass] (XS v++Yz) 7 (iv .i64 0) (XN 7 (Yu v i s) (Yu v i s).d v.puts):=by
 have hm:=bN0 v hb hd id i hi s hs hk;generalize Yu v i s=W at hm;have d1:decide (300≤v.sent)=false:=decide_eq_false (by omega);have hml:Triple Tryz.prog 52 [.c (.p 0 0 0 0),YM 7 id b k mass] (aL9 v++Yz) 7 (iv .i64 0) (wvP 7 W++[(1,true,VZ 5 W.d),(5,true,Jw true 2 W.d.known)]):=by
  refine Jc Ja Tryz.func52 rfl Tryz.call52 rfl ?_;intro ρ w hH;conv=>whnf
  repeat ((first|refine qT fun hc=>?_|refine qF fun hc=>?_);conv=>whnf)
  refine Jb hm rfl rfl ?_;conv=>whnf
  refine VL ?_;conv=>whnf
  exact cl
 refine Jc Ja Tryz.func17 rfl Tryz.call17 rfl ?_;intro ρ w hH;conv=>whnf
 repeat ((first|refine qT fun hc=>?_|refine qF fun hc=>?_);conv=>whnf)
 refine Jb hml rfl rfl ?_;conv=>whnf
 refine VL ?_;conv=>whnf
 exact cl
theorem bt4(v:Wv)(hb:WvB v)(hs3:v.sent<300)(hd:DskB v.d)(id b mass:Int)(k:Ky)(i:Nat)(hi:YU (Xx id) 0 v.mail=i)(s:Slp)(hs:v.mail[i]? = some s)(hk:s.kind=7) :
 Triple Tryz.prog 17 [.c (.p 0 0 0 0),YM 7 id b k mass] (XS v++Yz) 7 (iv .i64 0) (XN 7 (Yu v i s) (Yu v i s).d v.puts):=by
 have hm:=bN1 v hb hd id i hi s hs hk;generalize Yu v i s=W at hm;have d1:decide (300≤v.sent)=false:=decide_eq_false (by omega);have hml:Triple Tryz.prog 52 [.c (.p 0 0 0 0),YM 7 id b k mass] (aL9 v++Yz) 7 (iv .i64 0) (wvP 7 W++[(1,true,VZ 5 W.d),(5,true,Jw true 2 W.d.known)]):=by
  refine Jc Ja Tryz.func52 rfl Tryz.call52 rfl ?_;intro ρ w hH;conv=>whnf
  repeat ((first|refine qT fun hc=>?_|refine qF fun hc=>?_);conv=>whnf)
  refine Jb hm rfl rfl ?_;conv=>whnf
  refine VL ?_;conv=>whnf
  exact cl
 refine Jc Ja Tryz.func17 rfl Tryz.call17 rfl ?_;intro ρ w hH;conv=>whnf
 repeat ((first|refine qT fun hc=>?_|refine qF fun hc=>?_);conv=>whnf)
 refine Jb hml rfl rfl ?_;conv=>whnf
 refine VL ?_;conv=>whnf
 exact cl
theorem bY2(v:Wv)(hb:WvB v)(hs3:v.sent<300)(id b mass:Int)(k:Ky)(i:Nat)(hi:YU (Xx id) 0 v.mail=i)(x:Slp)(hx:v.mail[i]? = some x)(hk:ae0 x.kind=false)(s:Stn)(hs:StnV s)(j:Nat)(hj6:j<6)(hst:x.st=(j:Int)+1)(hj:v.os[j]? = some none) :
 Triple Tryz.prog 17 [.c (.p 0 0 0 0),YM 7 id b k mass] (XS v++[(6,false, .cells [.junk, .junk, .junk, .v (.int .i64 s.num), .m 7, .m 8]),(7,true,Jw false 2 s.grants),(8,true,Jw false 2 s.goes)]) 9
  (iv .i64 (JK s x).err) (XN 9 (VB v i) v.d v.puts++[(7,true,Jw false 2 (JK s x).grants),(8,true,Jw false 2 (JK s x).goes)]):=by
 have hm:=cw5 v hb id i hi x hx hk s hs j hj6 hst hj;generalize VB v i=W at hm;have d1:decide (300≤v.sent)=false:=decide_eq_false (by omega);have hml:Triple Tryz.prog 52 [.c (.p 0 0 0 0),YM 7 id b k mass] (wvH v++[(6,false, .cells [.junk, .junk, .junk, .v (.int .i64 s.num), .m 7, .m 8]),(7,true,Jw false 2 s.grants),(8,true,Jw false 2 s.goes)]) 9 (iv .i64 (JK s x).err) (wvP 9 W++[(7,true,Jw false 2 (JK s x).grants),(8,true,Jw false 2 (JK s x).goes)]):=by
  refine Jc Ja Tryz.func52 rfl Tryz.call52 rfl ?_;intro ρ w hH;conv=>whnf
  repeat ((first|refine qT fun hc=>?_|refine qF fun hc=>?_);conv=>whnf)
  refine Jb hm rfl rfl ?_;conv=>whnf
  refine VL ?_;conv=>whnf
  exact cl
 refine Jc Ja Tryz.func17 rfl Tryz.call17 rfl ?_;intro ρ w hH;conv=>whnf
 repeat ((first|refine qT fun hc=>?_|refine qF fun hc=>?_);conv=>whnf)
 refine Jb hml rfl rfl ?_;conv=>whnf
 refine VL ?_;conv=>whnf
 exact cl
end Go.Proofs
