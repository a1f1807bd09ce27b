/-
  A part of the proof that a law answers true: lemmas of a symbolic walk, plain functions, or contracts of the functions walked (ED, EE, EF, EG). Conditions: none.
-/
import Derived.Test.YtfcdjkeamldkaaaGreatPart18
set_option maxRecDepth 100000
set_option linter.unusedVariables false
set_option linter.unusedSimpArgs false
namespace Go.Proofs
open Go.Sx
structure Wv where
 d:Dsk
 os:List (Option Value)
 now:Int
 mail:List Slp
 sent:Int
 puts:Mp
abbrev wvO(w:Wv):SO:=.cells [.p 1 0 0 0, .s 2 0 w.os.length 1, .v (.int .i64 w.now), .s 3 0 w.mail.length 7, .v (.int .i64 w.sent), .m 4]
abbrev bf4(n:Nat)(w:Wv):SO:=.cells [.p 1 0 0 0, .s 2 0 w.os.length 1, .v (.int .i64 w.now), .s n 0 w.mail.length 7, .v (.int .i64 w.sent), .m 4]
abbrev wvX(o0 o1 o3 o4 o5:Bool)(w:Wv):Je:=[(0,o0,wvO w),(1,o1,VZ 5 w.d),(2,false, .arr (aPt 6 w.os)),(3,o3, .arr (Xw w.mail)),(4,o4,Jw false 2 w.puts),(5,o5,Jw true 2 w.d.known)]
abbrev wvH(w:Wv):Je:=wvX true false true false false w
abbrev wvR(w:Wv):Je:=wvX false false false false false w
abbrev Yz:Je:=[(6,false, .cells [.junk, .junk, .junk, .junk, .junk, .junk])]
def KB(w:Wv)(s:Slp):Wv:={ w with sent:=w.sent+1,mail:=w.mail++[{ s with id:=w.sent+1 }] }
theorem UN(v:Wv)(hs:0≤v.sent∧v.sent≤1000000)(hm:v.mail.length≤1000000)(s:Slp) :
 Triple Tryz.prog 107 [.c (.p 0 0 0 0),Wc s] (wvH v++Yz) 7 (.tup []) [(0,true,bf4 7 (KB v s)),(7,true, .arr (Xw (KB v s).mail))]:=by
 refine Jc Ja Tryz.func107 rfl Tryz.call107 rfl ?_;intro ρ w hH;conv=>whnf
 refine⟨_,wO, ?_⟩;conv=>whnf
 refine Yf Ja (Xw [{ s with id:=v.sent+1 }]) rfl rfl ?_;conv=>whnf
 refine⟨⟨rfl,cl⟩, ?_⟩;conv=>whnf
 have e:v.mail.take v.mail.length++(([{ s with id:=v.sent+1 }]:List Slp).drop 0).take 1=(KB v s).mail:=by
  rw[List.take_of_length_le (Nat.le_refl _)];rfl
 refine VG Ja (Xw v.mail) [{ s with id:=v.sent+1 }] (KB v s).mail (fun _=>rfl) rfl rfl rfl rfl ?_;conv=>whnf
 refine⟨⟨rfl,rfl,Nat.le_refl _,Nat.le_refl _,by show(v.mail.length+1)*57≤140737488355328;omega,e⟩, ?_⟩;conv=>whnf
 exact cl
def Xx(id:Int)(s:Slp):Bool:=s.id==id
theorem cw3(id:Int)(s:Slp):Triple Tryz.prog 108 [Wc s, .c (.p 1 0 0 0)] [(1,false, .cells [.v (.int .i64 id)])] 2 (bv (Xx id s)) []:=by
 refine Jc Ja Tryz.func108 rfl Tryz.call108 rfl ?_;intro ρ w hH;conv=>whnf
 exact cl
theorem cj8(id:Int)(s:Slp):Triple Tryz.prog 105 [Wc s, .c (.p 1 0 0 0)] [(1,false, .cells [.junk, .v (.int .i64 id), .junk, .junk, .junk, .junk])] 2 (bv (Xx id s)) []:=by
 refine Jc Ja Tryz.func105 rfl Tryz.call105 rfl ?_;intro ρ w hH;conv=>whnf
 exact cl
theorem aR9(id:Int)(xs:List Slp)(hx:xs.length≤1000000) :
 Triple Tryz.prog 104 [.c (.s 0 0 xs.length 7), .c (.f 108 [1])] [(0,false, .arr (Xw xs)),(1,false, .cells [.v (.int .i64 id)])] 2 (iv .i64 (YU (Xx id) 0 xs)) []:=by
 refine Jc Ja Tryz.func104 rfl Tryz.call104 rfl ?_;intro ρ w hH;conv=>whnf
 refine Jz Ja (G:=Nat) 0 [] (fun i=>[(8,iv .i64 i)]) (fun i=>[]) (fun i=>i≤xs.length∧∀x∈xs.take i,Xx id x=false) (fun i=>xs.length-i) ?_;conv=>whnf
 refine⟨⟨0,⟨Nat.zero_le _,by simp⟩, ?_⟩, ?_⟩
 ·conv=>whnf
  exact cl
 intro i hi ρ1 t1 hρ1;obtain⟨hi,hn⟩:=hi;conv=>whnf
 refine⟨fun hc=>?_,fun hc=>?_⟩
 ·have hc:i<xs.length:=by simpa using hc
  have hlt:=hc;conv=>whnf
  refine⟨i,rfl,hc,hc, ?_⟩;conv=>whnf
  refine Jb (cw3 id xs[i]) rfl rfl ?_;conv=>whnf
  refine cs ?_;conv=>whnf
  refine⟨fun hc=>?_,fun hc=>?_⟩
  ·conv=>whnf
   refine⟨?_,trivial⟩;show(i:Int)=YU (Xx id) 0 xs;rw[ay3 (k:=i) hlt hn hc,Nat.zero_add]
  ·conv=>whnf
   refine⟨_,wO, ?_⟩;refine⟨i+1,⟨by omega, ?_⟩,by show xs.length-(i+1)<xs.length-i;omega, ?_⟩
   ·intro x hxx;rw[JR hlt]at hxx;rcases List.mem_append.1 hxx with hxx|hxx
    ·exact hn x hxx
    ·simp only[List.mem_singleton]at hxx;rw[hxx];exact hc
   conv=>whnf
   refine⟨rfl, ?_⟩;conv=>whnf
   exact cl
 ·have hi2:i=xs.length:=by simp at hc;omega
  subst hi2;rw[List.take_length]at hn;conv=>whnf
  refine⟨?_,trivial⟩;show(-1:Int)=YU (Xx id) 0 xs;rw[ak7 hn]
theorem bz1(id:Int)(xs:List Slp)(hx:xs.length≤1000000) :
 Triple Tryz.prog 104 [.c (.s 0 0 xs.length 7), .c (.f 105 [1])] [(0,false, .arr (Xw xs)),(1,false, .cells [.junk, .v (.int .i64 id), .junk, .junk, .junk, .junk])] 2 (iv .i64 (YU (Xx id) 0 xs)) []:=by
 refine Jc Ja Tryz.func104 rfl Tryz.call104 rfl ?_;intro ρ w hH;conv=>whnf
 refine Jz Ja (G:=Nat) 0 [] (fun i=>[(8,iv .i64 i)]) (fun i=>[]) (fun i=>i≤xs.length∧∀x∈xs.take i,Xx id x=false) (fun i=>xs.length-i) ?_;conv=>whnf
 refine⟨⟨0,⟨Nat.zero_le _,by simp⟩, ?_⟩, ?_⟩
 ·conv=>whnf
  exact cl
 intro i hi ρ1 t1 hρ1;obtain⟨hi,hn⟩:=hi;conv=>whnf
 refine⟨fun hc=>?_,fun hc=>?_⟩
 ·have hc:i<xs.length:=by simpa using hc
  have hlt:=hc;conv=>whnf
  refine⟨i,rfl,hc,hc, ?_⟩;conv=>whnf
  refine Jb (cj8 id xs[i]) rfl rfl ?_;conv=>whnf
  refine cs ?_;conv=>whnf
  refine⟨fun hc=>?_,fun hc=>?_⟩
  ·conv=>whnf
   refine⟨?_,trivial⟩;show(i:Int)=YU (Xx id) 0 xs;rw[ay3 (k:=i) hlt hn hc,Nat.zero_add]
  ·conv=>whnf
   refine⟨_,wO, ?_⟩;refine⟨i+1,⟨by omega, ?_⟩,by show xs.length-(i+1)<xs.length-i;omega, ?_⟩
   ·intro x hxx;rw[JR hlt]at hxx;rcases List.mem_append.1 hxx with hxx|hxx
    ·exact hn x hxx
    ·simp only[List.mem_singleton]at hxx;rw[hxx];exact hc
   conv=>whnf
   refine⟨rfl, ?_⟩;conv=>whnf
   exact cl
 ·have hi2:i=xs.length:=by simp at hc;omega
  subst hi2;rw[List.take_length]at hn;conv=>whnf
  refine⟨?_,trivial⟩;show(-1:Int)=YU (Xx id) 0 xs;rw[ak7 hn]
theorem bz2(xs:List Slp)(hx:xs.length≤1000000)(i:Nat)(h:i<xs.length) :
 Triple Tryz.prog 109 [.c (.s 0 0 xs.length 7),iv .i64 i,iv .i64 ((i:Int)+1)] [(0,true, .arr (Xw xs))] 1 (.c (.s 0 0 (xs.eraseIdx i).length 7)) [(0,true, .arr (Xw (xs.eraseIdx i)))]:=by
 have hl:(xs.eraseIdx i).length=xs.length-1:=by rw[List.length_eraseIdx,if_pos h]
 have hZl:(Qh xs i (List.take (xs.length-(i+1)) (List.drop (i+1) xs))).length=xs.length:=Vy (by simp;omega);have hZt:(Qh xs i (List.take (xs.length-(i+1)) (List.drop (i+1) xs))).take (i+(xs.length-(i+1)))=xs.eraseIdx i:=by
  have hd:(List.drop (i+1) xs).length=xs.length-(i+1):=by simp
  rw[Qh,List.take_of_length_le (l:=List.drop (i+1) xs) (by rw[hd];exact Nat.le_refl _),←List.append_assoc,List.take_left' (by simp;omega),List.eraseIdx_eq_take_drop_succ]
 refine Jc Ja Tryz.func109 rfl Tryz.call109 rfl ?_;intro ρ w hH;conv=>whnf
 refine bW7 Ja (A:=Xw xs) (i:=i) (j:=i+1) (q:=xs.length) rfl rfl rfl rfl rfl rfl rfl rfl (by omega) (by omega) (Nat.le_refl _) ?_;conv=>whnf
 have e0:((i:Int)==(i:Int)+1)=false:=by simp;omega
 repeat ((first|refine qT fun hc=>?_|refine qF fun hc=>?_);conv=>whnf)
 refine⟨i,rfl,by omega, ?_⟩;conv=>whnf
 refine⟨Nat.zero_le _, ?_⟩;conv=>whnf
 refine⟨Nat.le_refl _,i+1,rfl,by omega, ?_⟩;conv=>whnf
 refine bL8 Ja (Xw xs) (k:=0) (len:=i) (st:=i+1) (m:=xs.length-(i+1)) (fun _=>rfl) rfl rfl rfl rfl rfl rfl rfl rfl (by show 1≤7;decide) rfl rfl rfl (by show i+(xs.length-(i+1))≤xs.length;omega) (by show i+1+(xs.length-(i+1))≤xs.length;omega) (by show 0<xs.length;omega) ?_;conv=>whnf
 refine bW8 Ja (A:=(Xw xs).setXs (Qh (Xw xs).xs i (List.take (xs.length-(i+1)) (List.drop (i+1) (Xw xs).xs)))) (i:=i+(xs.length-(i+1))) (j:=xs.length) rfl rfl rfl rfl rfl rfl rfl rfl (by omega) ?_ ?_
 ·show xs.length≤(Qh xs i (List.take (xs.length-(i+1)) (List.drop (i+1) xs))).length;rw[hZl];exact Nat.le_refl _
 conv=>whnf
 refine aY9 Ja rfl rfl rfl rfl ?_;conv=>whnf
 refine⟨⟨rfl, ?_⟩, ?_⟩
 ·show i+(xs.length-(i+1))+(xs.length-(i+(xs.length-(i+1))))≤(Qh xs i (List.take (xs.length-(i+1)) (List.drop (i+1) xs))).length;rw[hZl];omega
 conv=>whnf
 repeat'(first|exact trivial|exact rfl|refine And.intro ?_ ?_|((conv=>whnf);first|exact trivial|exact rfl|refine And.intro ?_ ?_|omega))
 ·exact congrArg Xw hZt
theorem cs4{xs:List Slp}{i:Nat}{s:Slp}(h:xs[i]? = some s):∀hz,(Xw xs).xs[JO 0 i]'hz=s:=fun hz=>by
 have h2:xs[JO 0 i]? = some (xs[JO 0 i]'hz):=List.getElem?_eq_getElem hz;have h3:xs[JO 0 i]? = some s:=by rw[Qc,Nat.zero_add];exact h
 exact Option.some.inj (h2.symm.trans h3)
theorem bs8(v:Wv)(hm:v.mail.length≤1000000)(id:Int)(hi:YU (Xx id) 0 v.mail=-1) :
 Triple Tryz.prog 54 [.c (.p 0 0 0 0),iv .i64 id] (wvR v++Yz) 7 (.tup [.inr (aw4 VS), .inl (.v (.int .i64 5))]) []:=by
 have hix:=aR9 id v.mail hm;rw[hi]at hix;refine Jc Ja Tryz.func54 rfl Tryz.call54 rfl ?_;intro ρ w hH;conv=>whnf
 refine Jb hix rfl rfl ?_;conv=>whnf
 refine cs ?_;conv=>whnf
 repeat ((first|refine qT fun hc=>?_|refine qF fun hc=>?_);conv=>whnf)
 exact cl
def VB(v:Wv)(i:Nat):Wv:={ v with mail:=v.mail.eraseIdx i }
theorem az1(v:Wv)(hm:v.mail.length≤1000000)(id:Int)(i:Nat)(hi:YU (Xx id) 0 v.mail=i)(s:Slp)(hs:v.mail[i]? = some s) :
 Triple Tryz.prog 54 [.c (.p 0 0 0 0),iv .i64 id] (wvH v++Yz) 7 (.tup [.inr (aw4 s), .inl (.v (.int .i64 0))]) [(0,true,bf4 7 (VB v i)),(7,true, .arr (Xw (VB v i).mail))]:=by
 have hix:=aR9 id v.mail hm;rw[hi]at hix;have hil:i<v.mail.length:=(List.getElem?_eq_some_iff.1 hs).1;have hsl:v.mail[i]=s:=(List.getElem?_eq_some_iff.1 hs).2;have d0:decide ((i:Int)<0)=false:=decide_eq_false (by omega);refine Jc Ja Tryz.func54 rfl Tryz.call54 rfl ?_;intro ρ w hH;conv=>whnf
 refine Jb hix rfl rfl ?_;conv=>whnf
 refine cs ?_;conv=>whnf
 repeat ((first|refine qT fun hc=>?_|refine qF fun hc=>?_);conv=>whnf)
 refine⟨i,rfl,hil,hil, ?_⟩;conv=>whnf
 erw[cs4 hs];refine Jb (bM2 v.mail hm) rfl rfl ?_;conv=>whnf
 refine cs ?_;conv=>whnf
 refine⟨_,wO, ?_⟩;conv=>whnf
 refine Jb (bz2 v.mail hm i hil) rfl rfl ?_;conv=>whnf
 refine cs ?_;conv=>whnf
 exact cl
abbrev YM(kind a b:Int)(k:Ky)(mass:Int):SV:=.agg [.v (.int .i64 kind), .v (.int .i64 a), .v (.int .i64 b), .v (.int .i64 k.1), .v (.int .i64 k.2), .v (.int .i64 mass)]
def Xs(v:Wv)(x:Slp×Int):Int×Wv:=if x.2=0 then(0,KB v x.1)else(x.2,v)
abbrev wvP(n:Nat)(v:Wv):Je:=[(0,true,bf4 n v),(n,true, .arr (Xw v.mail))]
theorem KC{k k' i:Nat}{os:List (Option Value)}(h:os[i]? = some none):∀hz,ptC k ((aPt k' os).xs[JO 0 i]'hz)=.p k 0 0 0:=fun hz=>by
 have e:(aPt k' os).xs[JO 0 i]'hz=none:=by
  have h2:os[JO 0 i]? = some (os[JO 0 i]'hz):=List.getElem?_eq_getElem hz;have h3:os[JO 0 i]? = some none:=by rw[Qc,Nat.zero_add];exact h
  exact Option.some.inj (h2.symm.trans h3)
 rw[e];rfl
structure WvB (v:Wv):Prop where
 sent:0≤v.sent∧v.sent≤1000000
 mail:v.mail.length≤1000000
 now:0≤v.now∧v.now≤1000000
theorem bM3(v:Wv)(hb:WvB v)(s:Stn)(hs:StnV s)(i:Nat)(hil6:i<6)(hi:v.os[i]? = some none)(b mass:Int)(k:Ky) :
 Triple Tryz.prog 52 [.c (.p 0 0 0 0),YM 2 ((i:Int)+1) b k mass]
  (wvH v++[(6,false, .cells [.junk, .junk, .m 7, .v (.int .i64 s.num), .m 8, .m 9]),(7,false,Jw true 2 s.did),(8,false,Jw false 2 s.grants),(9,false,Jw false 2 s.goes)]) 10
  (iv .i64 (Xs v (Uo s k)).1) (wvP 10 (Xs v (Uo s k)).2):=by
 have hx:=cI3 s hs k;have hil:i<v.os.length:=(List.getElem?_eq_some_iff.1 hi).1;have hsd:=UN v hb.sent hb.mail;generalize hX:Uo s k=X at hx;obtain⟨x,er⟩:=X;by_cases he:er=0
 ·subst he;rw[show Xs v (x,0)=(0,KB v x)from rfl];refine Jc Ja Tryz.func52 rfl Tryz.call52 rfl ?_;intro ρ w hH;conv=>whnf
  repeat ((first|refine qT fun hc=>?_|refine qF fun hc=>?_);conv=>whnf)
  refine⟨(i:Int),by rw[Int.add_sub_cancel];exact wO, ?_⟩;conv=>whnf
  refine⟨i,rfl,hil,hil, ?_⟩;conv=>whnf
  erw[KC hi];refine Jb hx rfl rfl ?_;conv=>whnf
  refine cs ?_;conv=>whnf
  repeat ((first|refine qT fun hc=>?_|refine qF fun hc=>?_);conv=>whnf)
  refine Jb (hsd x) rfl rfl ?_;conv=>whnf
  refine VL ?_;conv=>whnf
  exact cl
 ·have b0:(er==0)=false:=by simp[he]
  rw[show Xs v (x,er)=(er,v)from by unfold Xs;rw[if_neg he]];refine Jc Ja Tryz.func52 rfl Tryz.call52 rfl ?_;intro ρ w hH;conv=>whnf
  repeat ((first|refine qT fun hc=>?_|refine qF fun hc=>?_);conv=>whnf)
  refine⟨(i:Int),by rw[Int.add_sub_cancel];exact wO, ?_⟩;conv=>whnf
  refine⟨i,rfl,hil,hil, ?_⟩;conv=>whnf
  erw[KC hi];refine Jb hx rfl rfl ?_;conv=>whnf
  refine cs ?_;conv=>whnf
  repeat ((first|refine qT fun hc=>?_|refine qF fun hc=>?_);conv=>whnf)
  exact cl
theorem bM4(v:Wv)(hb:WvB v)(s:Stn)(hs:StnV s)(i:Nat)(hil6:i<6)(hi:v.os[i]? = some none)(b mass:Int)(k:Ky) :
 Triple Tryz.prog 52 [.c (.p 0 0 0 0),YM 3 ((i:Int)+1) b k mass]
  (wvH v++[(6,false, .cells [.junk, .junk, .m 7, .v (.int .i64 s.num), .m 8, .m 9]),(7,false,Jw true 2 s.did),(8,false,Jw false 2 s.grants),(9,false,Jw false 2 s.goes)]) 10
  (iv .i64 (Xs v (Xh s k)).1) (wvP 10 (Xs v (Xh s k)).2):=by
 have hx:=bD8 s hs k;have hil:i<v.os.length:=(List.getElem?_eq_some_iff.1 hi).1;have hsd:=UN v hb.sent hb.mail;generalize hX:Xh s k=X at hx;obtain⟨x,er⟩:=X;by_cases he:er=0
 ·subst he;rw[show Xs v (x,0)=(0,KB v x)from rfl];refine Jc Ja Tryz.func52 rfl Tryz.call52 rfl ?_;intro ρ w hH;conv=>whnf
  repeat ((first|refine qT fun hc=>?_|refine qF fun hc=>?_);conv=>whnf)
  refine⟨(i:Int),by rw[Int.add_sub_cancel];exact wO, ?_⟩;conv=>whnf
  refine⟨i,rfl,hil,hil, ?_⟩;conv=>whnf
  erw[KC hi];refine Jb hx rfl rfl ?_;conv=>whnf
  refine cs ?_;conv=>whnf
  repeat ((first|refine qT fun hc=>?_|refine qF fun hc=>?_);conv=>whnf)
  refine Jb (hsd x) rfl rfl ?_;conv=>whnf
  refine VL ?_;conv=>whnf
  exact cl
 ·have b0:(er==0)=false:=by simp[he]
  rw[show Xs v (x,er)=(er,v)from by unfold Xs;rw[if_neg he]];refine Jc Ja Tryz.func52 rfl Tryz.call52 rfl ?_;intro ρ w hH;conv=>whnf
  repeat ((first|refine qT fun hc=>?_|refine qF fun hc=>?_);conv=>whnf)
  refine⟨(i:Int),by rw[Int.add_sub_cancel];exact wO, ?_⟩;conv=>whnf
  refine⟨i,rfl,hil,hil, ?_⟩;conv=>whnf
  erw[KC hi];refine Jb hx rfl rfl ?_;conv=>whnf
  refine cs ?_;conv=>whnf
  repeat ((first|refine qT fun hc=>?_|refine qF fun hc=>?_);conv=>whnf)
  exact cl
theorem bM5(v:Wv)(hb:WvB v)(s:Stn)(hs:StnV s)(i:Nat)(hil6:i<6)(hi:v.os[i]? = some none)(b mass:Int)(k:Ky) :
 Triple Tryz.prog 52 [.c (.p 0 0 0 0),YM 4 ((i:Int)+1) b k mass]
  (wvH v++[(6,false, .cells [.junk, .junk, .m 7, .v (.int .i64 s.num), .m 8, .m 9]),(7,false,Jw true 2 s.did),(8,true,Jw false 2 s.grants),(9,false,Jw false 2 s.goes)]) 10
  (iv .i64 (Xs v ((Vh s k).1)).1) (wvP 10 (Xs v ((Vh s k).1)).2++[(8,true,Jw false 2 (Vh s k).2)]):=by
 have hx:=cD7 s hs k;have hil:i<v.os.length:=(List.getElem?_eq_some_iff.1 hi).1;have hsd:=UN v hb.sent hb.mail;generalize hX:(Vh s k).1=X at hx;obtain⟨x,er⟩:=X;by_cases he:er=0
 ·subst he;rw[show Xs v (x,0)=(0,KB v x)from rfl];refine Jc Ja Tryz.func52 rfl Tryz.call52 rfl ?_;intro ρ w hH;conv=>whnf
  repeat ((first|refine qT fun hc=>?_|refine qF fun hc=>?_);conv=>whnf)
  refine⟨(i:Int),by rw[Int.add_sub_cancel];exact wO, ?_⟩;conv=>whnf
  refine⟨i,rfl,hil,hil, ?_⟩;conv=>whnf
  erw[KC hi];refine Jb hx rfl rfl ?_;conv=>whnf
  refine cs ?_;conv=>whnf
  repeat ((first|refine qT fun hc=>?_|refine qF fun hc=>?_);conv=>whnf)
  refine Jb (hsd x) rfl rfl ?_;conv=>whnf
  refine VL ?_;conv=>whnf
  exact cl
 ·have b0:(er==0)=false:=by simp[he]
  rw[show Xs v (x,er)=(er,v)from by unfold Xs;rw[if_neg he]];refine Jc Ja Tryz.func52 rfl Tryz.call52 rfl ?_;intro ρ w hH;conv=>whnf
  repeat ((first|refine qT fun hc=>?_|refine qF fun hc=>?_);conv=>whnf)
  refine⟨(i:Int),by rw[Int.add_sub_cancel];exact wO, ?_⟩;conv=>whnf
  refine⟨i,rfl,hil,hil, ?_⟩;conv=>whnf
  erw[KC hi];refine Jb hx rfl rfl ?_;conv=>whnf
  refine cs ?_;conv=>whnf
  repeat ((first|refine qT fun hc=>?_|refine qF fun hc=>?_);conv=>whnf)
  exact cl
theorem bM6(v:Wv)(hb:WvB v)(num:Int)(did:Mp)(hv:Yk 3 did)(i:Nat)(hil6:i<6)(hi:v.os[i]? = some none)(b mass:Int)(k:Ky)(hno:Jf mass 0 10000000=true→JP did k=true→(Ye did k).2.1<0) :
 Triple Tryz.prog 52 [.c (.p 0 0 0 0),YM 6 ((i:Int)+1) b k mass]
  (wvH v++[(6,false, .cells [.junk, .junk, .m 7, .v (.int .i64 num), .junk, .junk]),(7,false,Jw true 2 did)]) 8
  (iv .i64 (Xs v (Up num did k mass)).1) (wvP 8 (Xs v (Up num did k mass)).2):=by
 have hx:=bX0 num did hv k mass hno;have hil:i<v.os.length:=(List.getElem?_eq_some_iff.1 hi).1;have hsd:=UN v hb.sent hb.mail;generalize hX:Up num did k mass=X at hx;obtain⟨x,er⟩:=X;by_cases he:er=0
 ·subst he;rw[show Xs v (x,0)=(0,KB v x)from rfl];refine Jc Ja Tryz.func52 rfl Tryz.call52 rfl ?_;intro ρ w hH;conv=>whnf
  repeat ((first|refine qT fun hc=>?_|refine qF fun hc=>?_);conv=>whnf)
  refine⟨(i:Int),by rw[Int.add_sub_cancel];exact wO, ?_⟩;conv=>whnf
  refine⟨i,rfl,hil,hil, ?_⟩;conv=>whnf
  erw[KC hi];refine Jb (hx) rfl rfl ?_;conv=>whnf
  refine cs ?_;conv=>whnf
  repeat ((first|refine qT fun hc=>?_|refine qF fun hc=>?_);conv=>whnf)
  refine Jb (hsd x) rfl rfl ?_;conv=>whnf
  refine VL ?_;conv=>whnf
  exact cl
 ·have b0:(er==0)=false:=by simp[he]
  rw[show Xs v (x,er)=(er,v)from by unfold Xs;rw[if_neg he]];refine Jc Ja Tryz.func52 rfl Tryz.call52 rfl ?_;intro ρ w hH;conv=>whnf
  repeat ((first|refine qT fun hc=>?_|refine qF fun hc=>?_);conv=>whnf)
  refine⟨(i:Int),by rw[Int.add_sub_cancel];exact wO, ?_⟩;conv=>whnf
  refine⟨i,rfl,hil,hil, ?_⟩;conv=>whnf
  erw[KC hi];refine Jb (hx) rfl rfl ?_;conv=>whnf
  refine cs ?_;conv=>whnf
  repeat ((first|refine qT fun hc=>?_|refine qF fun hc=>?_);conv=>whnf)
  exact cl
theorem bs9(v:Wv)(hb:WvB v)(num:Int)(did:Mp)(hv:Yk 3 did)(i:Nat)(hil6:i<6)(hi:v.os[i]? = some none)(b mass:Int)(k:Ky)
 (os:List (Option Value)) (ov:List Ky) (ho:ov.length≤100000) (j:Nat) (hj:os[j]? = some none) (hu:∀i,os[i]? = some none→i=j)
 (h1:Jf mass 0 10000000=true) (h2:JP did k=true) (h3:(Ye did k).2.1=j) :
 Triple Tryz.prog 52 [.c (.p 0 0 0 0),YM 6 ((i:Int)+1) b k mass]
  (wvH v++[(6,false, .cells [.junk, .s 7 0 os.length 1, .m 8, .v (.int .i64 num), .junk, .junk]),(7,true, .arr (Gv 9 ov.length os)),(8,true,Jw true 2 did),(9,true, .arr (Vn ov))]) 10
  (iv .i64 0) (wvP 10 (KB v ⟨0,7,num,k,(Ye did k).1,mass⟩)++[(7,true, .arr (Gv 9 (GJ k ov).length os)),(8,true,Jw true 2 (did.put (Qb k) [(Ye did k).1,-1,mass])),(9,true, .arr (Vn (GJ k ov)))]):=by
 have hx:=bX1 num did hv os ov ho k mass j hj hu h1 h2 h3;have hil:i<v.os.length:=(List.getElem?_eq_some_iff.1 hi).1;have hsd:=UN v hb.sent hb.mail;refine Jc Ja Tryz.func52 rfl Tryz.call52 rfl ?_;intro ρ w hH;conv=>whnf
 repeat ((first|refine qT fun hc=>?_|refine qF fun hc=>?_);conv=>whnf)
 refine⟨(i:Int),by rw[Int.add_sub_cancel];exact wO, ?_⟩;conv=>whnf
 refine⟨i,rfl,hil,hil, ?_⟩;conv=>whnf
 erw[KC hi];refine Jb (hx) rfl rfl ?_;conv=>whnf
 refine⟨cl,(by repeat' (first|exact(XM rfl)|exact trivial|exact rfl|refine And.intro ?_ ?_|((conv=>whnf);first|exact(XM rfl)|exact trivial|exact rfl|refine And.intro ?_ ?_|omega))), ?_⟩;conv=>whnf
 rw[←XM rfl];conv=>whnf
 repeat ((first|refine qT fun hc=>?_|refine qF fun hc=>?_);conv=>whnf)
 refine Jb (hsd ⟨0,7,num,k,(Ye did k).1,mass⟩) rfl rfl ?_;conv=>whnf
 refine VL ?_;conv=>whnf
 repeat' (first|exact(XM rfl)|exact trivial|exact rfl|refine And.intro ?_ ?_|((conv=>whnf);first|exact(XM rfl)|exact trivial|exact rfl|refine And.intro ?_ ?_|omega))
theorem bM7(v:Wv)(hb:WvB v)(a b mass:Int)(k:Ky)(x:Slp×Int)(hx:YU (Xx a) 0 v.mail=-1∧x=(VS,5)∨∃i s,YU (Xx a) 0 v.mail=(i:Nat)∧v.mail[i]? = some s∧x=(s,0)) :
 Triple Tryz.prog 52 [.c (.p 0 0 0 0),YM 9 a b k mass] (wvH v++Yz) 7 (iv .i64 (Xs v x).1) (wvP 7 (Xs v x).2):=by
 have hix:=bz1 a v.mail hb.mail;have hsd:=UN v hb.sent hb.mail;rcases hx with ⟨hi,rfl⟩|⟨i,s,hi,hs,rfl⟩
 ·rw[hi]at hix;rw[show Xs v (VS,5)=(5,v)from rfl];refine Jc Ja Tryz.func52 rfl Tryz.call52 rfl ?_;intro ρ w hH;conv=>whnf
  repeat ((first|refine qT fun hc=>?_|refine qF fun hc=>?_);conv=>whnf)
  refine Jb hix rfl rfl ?_;conv=>whnf
  refine cs ?_;conv=>whnf
  repeat ((first|refine qT fun hc=>?_|refine qF fun hc=>?_);conv=>whnf)
  exact cl
 ·rw[hi]at hix;have hil:i<v.mail.length:=(List.getElem?_eq_some_iff.1 hs).1;have d0:decide ((i:Int)<0)=false:=decide_eq_false (by omega);rw[show Xs v (s,0)=(0,KB v s)from rfl];refine Jc Ja Tryz.func52 rfl Tryz.call52 rfl ?_;intro ρ w hH;conv=>whnf
  repeat ((first|refine qT fun hc=>?_|refine qF fun hc=>?_);conv=>whnf)
  refine Jb hix rfl rfl ?_;conv=>whnf
  refine cs ?_;conv=>whnf
  repeat ((first|refine qT fun hc=>?_|refine qF fun hc=>?_);conv=>whnf)
  refine⟨i,rfl,hil,hil, ?_⟩;conv=>whnf
  erw[cs4 hs];repeat ((first|refine qT fun hc=>?_|refine qF fun hc=>?_);conv=>whnf)
  refine Jb (hsd s) rfl rfl ?_;conv=>whnf
  refine VL ?_;conv=>whnf
  exact cl
theorem cw4(v:Wv)(hb:WvB v)(id:Int)(hi:YU (Xx id) 0 v.mail=-1) :
 Triple Tryz.prog 106 [.c (.p 0 0 0 0),iv .i64 id] (wvR v++Yz) 7 (iv .i64 5) []:=by
 have htk:=bs8 v hb.mail id hi;refine Jc Ja Tryz.func106 rfl Tryz.call106 rfl ?_;intro ρ w hH;conv=>whnf
 refine Jb htk rfl rfl ?_;conv=>whnf
 refine VL ?_;conv=>whnf
 repeat ((first|refine qT fun hc=>?_|refine qF fun hc=>?_);conv=>whnf)
 exact cl
def Yu(v:Wv)(i:Nat)(s:Slp):Wv :=
 if(Yg v.d v.now s).1.2=true then KB { VB v i with d:=(Yg v.d v.now s).2 } (Yg v.d v.now s).1.1 else { VB v i with d:=(Yg v.d v.now s).2 }
abbrev aL9(v:Wv):Je:=wvX true true true false true v
theorem bM8(v:Wv)(hb:WvB v)(hd:DskB v.d)(id:Int)(i:Nat)(hi:YU (Xx id) 0 v.mail=i)(s:Slp)(hs:v.mail[i]? = some s)(hk:s.kind=1) :
 Triple Tryz.prog 106 [.c (.p 0 0 0 0),iv .i64 id] (aL9 v++Yz) 7 (iv .i64 0) (wvP 7 (Yu v i s)++[(1,true,VZ 5 (Yu v i s).d),(5,true,Jw true 2 (Yu v i s).d.known)]):=by
 have htk:=az1 v hb.mail id i hi s hs;have hhr:=ba5 v.d hd v.now s;have hml:(VB v i).mail.length≤1000000:=by
  have h1:=hb.mail;have h2:(v.mail.eraseIdx i).length≤v.mail.length:=List.length_eraseIdx_le _ _;show(v.mail.eraseIdx i).length≤1000000;omega
 have bk:=YI hk;obtain⟨X,hX⟩:∃X,Yg v.d v.now s=X:=⟨_,rfl⟩;rw[hX]at hhr;obtain⟨x,d'⟩:=X;cases x with
 |mk x is =>
  cases is with
  |false =>
   rw[show Yu v i s={ VB v i with d:=d' }from by unfold Yu;rw[hX];rfl];dsimp only at hhr;refine Jc Ja Tryz.func106 rfl Tryz.call106 rfl ?_;intro ρ w hH;conv=>whnf
   refine Jb htk rfl rfl ?_;conv=>whnf
   refine VL ?_;conv=>whnf
   repeat ((first|refine qT fun hc=>?_|refine qF fun hc=>?_);conv=>whnf)
   refine Jb hhr rfl rfl ?_;conv=>whnf
   refine cs ?_;conv=>whnf
   repeat ((first|refine qT fun hc=>?_|refine qF fun hc=>?_);conv=>whnf)
   exact cl
  |true =>
   rw[show Yu v i s=KB { VB v i with d:=d' } x from by unfold Yu;rw[hX];rfl];dsimp only at hhr;refine Jc Ja Tryz.func106 rfl Tryz.call106 rfl ?_;intro ρ w hH;conv=>whnf
   refine Jb htk rfl rfl ?_;conv=>whnf
   refine VL ?_;conv=>whnf
   repeat ((first|refine qT fun hc=>?_|refine qF fun hc=>?_);conv=>whnf)
   refine Jb hhr rfl rfl ?_;conv=>whnf
   refine cs ?_;conv=>whnf
   repeat ((first|refine qT fun hc=>?_|refine qF fun hc=>?_);conv=>whnf)
   refine Jb (UN { VB v i with d:=d' } hb.sent hml x) rfl rfl ?_;conv=>whnf
   refine VL ?_;conv=>whnf
   exact cl
theorem bM9(v:Wv)(hb:WvB v)(hd:DskB v.d)(id:Int)(i:Nat)(hi:YU (Xx id) 0 v.mail=i)(s:Slp)(hs:v.mail[i]? = some s)(hk:s.kind=4) :
 Triple Tryz.prog 106 [.c (.p 0 0 0 0),iv .i64 id] (aL9 v++Yz) 7 (iv .i64 0) (wvP 7 (Yu v i s)++[(1,true,VZ 5 (Yu v i s).d),(5,true,Jw true 2 (Yu v i s).d.known)]):=by
 have htk:=az1 v hb.mail id i hi s hs;have hhr:=ba5 v.d hd v.now s;have hml:(VB v i).mail.length≤1000000:=by
  have h1:=hb.mail;have h2:(v.mail.eraseIdx i).length≤v.mail.length:=List.length_eraseIdx_le _ _;show(v.mail.eraseIdx i).length≤1000000;omega
 have bk:=YI hk;have b1:=JG (a:=s.kind) (b:=1) (by omega);obtain⟨X,hX⟩:∃X,Yg v.d v.now s=X:=⟨_,rfl⟩;rw[hX]at hhr;obtain⟨x,d'⟩:=X;cases x with
 |mk x is =>
  cases is with
  |false =>
   rw[show Yu v i s={ VB v i with d:=d' }from by unfold Yu;rw[hX];rfl];dsimp only at hhr;refine Jc Ja Tryz.func106 rfl Tryz.call106 rfl ?_;intro ρ w hH;conv=>whnf
   refine Jb htk rfl rfl ?_;conv=>whnf
   refine VL ?_;conv=>whnf
   repeat ((first|refine qT fun hc=>?_|refine qF fun hc=>?_);conv=>whnf)
   refine Jb hhr rfl rfl ?_;conv=>whnf
   refine cs ?_;conv=>whnf
   repeat ((first|refine qT fun hc=>?_|refine qF fun hc=>?_);conv=>whnf)
   exact cl
  |true =>
   rw[show Yu v i s=KB { VB v i with d:=d' } x from by unfold Yu;rw[hX];rfl];dsimp only at hhr;refine Jc Ja Tryz.func106 rfl Tryz.call106 rfl ?_;intro ρ w hH;conv=>whnf
   refine Jb htk rfl rfl ?_;conv=>whnf
   refine VL ?_;conv=>whnf
   repeat ((first|refine qT fun hc=>?_|refine qF fun hc=>?_);conv=>whnf)
   refine Jb hhr rfl rfl ?_;conv=>whnf
   refine cs ?_;conv=>whnf
   repeat ((first|refine qT fun hc=>?_|refine qF fun hc=>?_);conv=>whnf)
   refine Jb (UN { VB v i with d:=d' } hb.sent hml x) rfl rfl ?_;conv=>whnf
   refine VL ?_;conv=>whnf
   exact cl
theorem bN0(v:Wv)(hb:WvB v)(hd:DskB v.d)(id:Int)(i:Nat)(hi:YU (Xx id) 0 v.mail=i)(s:Slp)(hs:v.mail[i]? = some s)(hk:s.kind=6) :
 Triple Tryz.prog 106 [.c (.p 0 0 0 0),iv .i64 id] (aL9 v++Yz) 7 (iv .i64 0) (wvP 7 (Yu v i s)++[(1,true,VZ 5 (Yu v i s).d),(5,true,Jw true 2 (Yu v i s).d.known)]):=by
 have htk:=az1 v hb.mail id i hi s hs;have hhr:=ba5 v.d hd v.now s;have hml:(VB v i).mail.length≤1000000:=by
  have h1:=hb.mail;have h2:(v.mail.eraseIdx i).length≤v.mail.length:=List.length_eraseIdx_le _ _;show(v.mail.eraseIdx i).length≤1000000;omega
 have bk:=YI hk;have b1:=JG (a:=s.kind) (b:=1) (by omega);have b4:=JG (a:=s.kind) (b:=4) (by omega);obtain⟨X,hX⟩:∃X,Yg v.d v.now s=X:=⟨_,rfl⟩;rw[hX]at hhr;obtain⟨x,d'⟩:=X;cases x with
 |mk x is =>
  cases is with
  |false =>
   rw[show Yu v i s={ VB v i with d:=d' }from by unfold Yu;rw[hX];rfl];dsimp only at hhr;refine Jc Ja Tryz.func106 rfl Tryz.call106 rfl ?_;intro ρ w hH;conv=>whnf
   refine Jb htk rfl rfl ?_;conv=>whnf
   refine VL ?_;conv=>whnf
   repeat ((first|refine qT fun hc=>?_|refine qF fun hc=>?_);conv=>whnf)
   refine Jb hhr rfl rfl ?_;conv=>whnf
   refine cs ?_;conv=>whnf
   repeat ((first|refine qT fun hc=>?_|refine qF fun hc=>?_);conv=>whnf)
   exact cl
  |true =>
   rw[show Yu v i s=KB { VB v i with d:=d' } x from by unfold Yu;rw[hX];rfl];dsimp only at hhr;refine Jc Ja Tryz.func106 rfl Tryz.call106 rfl ?_;intro ρ w hH;conv=>whnf
   refine Jb htk rfl rfl ?_;conv=>whnf
   refine VL ?_;conv=>whnf
   repeat ((first|refine qT fun hc=>?_|refine qF fun hc=>?_);conv=>whnf)
   refine Jb hhr rfl rfl ?_;conv=>whnf
   refine cs ?_;conv=>whnf
   repeat ((first|refine qT fun hc=>?_|refine qF fun hc=>?_);conv=>whnf)
   refine Jb (UN { VB v i with d:=d' } hb.sent hml x) rfl rfl ?_;conv=>whnf
   refine VL ?_;conv=>whnf
   exact cl
theorem bN1(v:Wv)(hb:WvB v)(hd:DskB v.d)(id:Int)(i:Nat)(hi:YU (Xx id) 0 v.mail=i)(s:Slp)(hs:v.mail[i]? = some s)(hk:s.kind=7) :
 Triple Tryz.prog 106 [.c (.p 0 0 0 0),iv .i64 id] (aL9 v++Yz) 7 (iv .i64 0) (wvP 7 (Yu v i s)++[(1,true,VZ 5 (Yu v i s).d),(5,true,Jw true 2 (Yu v i s).d.known)]):=by
 have htk:=az1 v hb.mail id i hi s hs;have hhr:=ba5 v.d hd v.now s;have hml:(VB v i).mail.length≤1000000:=by
  have h1:=hb.mail;have h2:(v.mail.eraseIdx i).length≤v.mail.length:=List.length_eraseIdx_le _ _;show(v.mail.eraseIdx i).length≤1000000;omega
 have bk:=YI hk;have b1:=JG (a:=s.kind) (b:=1) (by omega);have b4:=JG (a:=s.kind) (b:=4) (by omega);have b6:=JG (a:=s.kind) (b:=6) (by omega);obtain⟨X,hX⟩:∃X,Yg v.d v.now s=X:=⟨_,rfl⟩;rw[hX]at hhr;obtain⟨x,d'⟩:=X;cases x with
 |mk x is =>
  cases is with
  |false =>
   rw[show Yu v i s={ VB v i with d:=d' }from by unfold Yu;rw[hX];rfl];dsimp only at hhr;refine Jc Ja Tryz.func106 rfl Tryz.call106 rfl ?_;intro ρ w hH;conv=>whnf
   refine Jb htk rfl rfl ?_;conv=>whnf
   refine VL ?_;conv=>whnf
   repeat ((first|refine qT fun hc=>?_|refine qF fun hc=>?_);conv=>whnf)
   refine Jb hhr rfl rfl ?_;conv=>whnf
   refine cs ?_;conv=>whnf
   repeat ((first|refine qT fun hc=>?_|refine qF fun hc=>?_);conv=>whnf)
   exact cl
  |true =>
   rw[show Yu v i s=KB { VB v i with d:=d' } x from by unfold Yu;rw[hX];rfl];dsimp only at hhr;refine Jc Ja Tryz.func106 rfl Tryz.call106 rfl ?_;intro ρ w hH;conv=>whnf
   refine Jb htk rfl rfl ?_;conv=>whnf
   refine VL ?_;conv=>whnf
   repeat ((first|refine qT fun hc=>?_|refine qF fun hc=>?_);conv=>whnf)
   refine Jb hhr rfl rfl ?_;conv=>whnf
   refine cs ?_;conv=>whnf
   repeat ((first|refine qT fun hc=>?_|refine qF fun hc=>?_);conv=>whnf)
   refine Jb (UN { VB v i with d:=d' } hb.sent hml x) rfl rfl ?_;conv=>whnf
   refine VL ?_;conv=>whnf
   exact cl
end Go.Proofs
