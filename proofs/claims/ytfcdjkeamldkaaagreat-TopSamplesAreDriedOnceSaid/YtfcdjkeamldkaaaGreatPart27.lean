/-
  A part of the proof that a law answers true: lemmas of a symbolic walk, plain functions, or contracts of the functions walked (V4, V5, V6, V7, V8). Conditions: none.
-/
import Derived.Test.YtfcdjkeamldkaaaGreatPart26
set_option maxRecDepth 100000
set_option linter.unusedVariables false
set_option linter.unusedSimpArgs false
namespace Go.Proofs
open Go.Sx
theorem cz7(L:List UInt8)(st n:Nat)(x:UInt64):L.take st++JW n x++L.drop (st+n)=Qh L st (JW n x):=by
 unfold Qh;rw[JU,List.append_assoc]
theorem az7(L:List UInt8)(hL:L.length=128)(st n:Nat)(x:UInt64)(h:st+n≤128) :
 Triple Tryz.prog 94 [.c (.s 0 st n 1),uv x] [(0,true, .arr (Qr (some 128) L))] 1 (.tup []) [(0,true, .arr (Qr (some 128) (Qh L st (JW n x))))]:=by
 rw[←cz7];exact bJ9 (some 128) L st n x (by omega) (by omega)
def YN:List UInt8:=List.replicate 128 0
def Vk:List UInt8:=[68,82,89,83,84,79,82,69]
structure Bs where
 gen:UInt64
 first:UInt64
 dropped:UInt64
 session:UInt64
 link:List UInt8
abbrev bsC(b:Bs):List SC:=[.v (.int .u64 (b.gen.toNat:Int)), .v (.int .u64 (b.first.toNat:Int)), .v (.int .u64 (b.dropped.toNat:Int)), .v (.int .u64 (b.session.toNat:Int)),WI b.link]
def bP1(b:Bs):List UInt8:=Qh (Qh (Qh (Qh (Qh (Qh YN 0 Vk) 8 (JW 8 b.gen)) 16 (JW 4 b.session)) 20 (JW 8 b.first)) 28 (JW 8 b.dropped)) 36 b.link
def ab4(b:Bs):List UInt8:=WO 1 (bP1 b) 44
theorem bv4(b:Bs)(hk:b.link.length=8):(bP1 b).length=128:=by
 unfold bP1;refine Qn (Qn (Qn (Qn (Qn (Qn rfl (by decide)) ?_) ?_) ?_) ?_) ?_ <;> simp[JU,hk]
theorem bc1(b:Bs)(hk:b.link.length=8):(ab4 b).length=128:=Ur _ _ (bv4 b hk) _ (by decide)
theorem cb3(b:Bs)(hk:b.link.length=8):Triple Tryz.prog 117 [.agg (bsC b)] [] 0 (YQ (ab4 b)) []:=by
 obtain⟨L0,h0⟩:∃L,L=YN:=⟨_,rfl⟩;obtain⟨L1,h1⟩:∃L,L=Qh L0 0 Vk:=⟨_,rfl⟩;obtain⟨L2,h2⟩:∃L,L=Qh L1 8 (JW 8 b.gen):=⟨_,rfl⟩;obtain⟨L3,h3⟩:∃L,L=Qh L2 16 (JW 4 b.session):=⟨_,rfl⟩;obtain⟨L4,h4⟩:∃L,L=Qh L3 20 (JW 8 b.first):=⟨_,rfl⟩;obtain⟨L5,h5⟩:∃L,L=Qh L4 28 (JW 8 b.dropped):=⟨_,rfl⟩;obtain⟨L6,h6⟩:∃L,L=Qh L5 36 b.link:=⟨_,rfl⟩;have l0:L0.length=128:=by rw[h0];rfl
 have l1:L1.length=128:=by rw[h1];exact Qn l0 (by decide)
 have l2:L2.length=128:=by rw[h2];exact Qn l1 (by rw[JU];decide)
 have l3:L3.length=128:=by rw[h3];exact Qn l2 (by rw[JU];decide)
 have l4:L4.length=128:=by rw[h4];exact Qn l3 (by rw[JU];decide)
 have l5:L5.length=128:=by rw[h5];exact Qn l4 (by rw[JU];decide)
 have l6:L6.length=128:=by rw[h6];exact Qn l5 (by omega)
 have hb:ab4 b=WO 1 L6 44:=by rw[h6,h5,h4,h3,h2,h1,h0];rfl
 have l7:(WO 1 L6 44).length=128:=Ur _ _ l6 _ (by decide);rw[hb];refine Jc Ja Tryz.func117 rfl Tryz.call117 rfl ?_;intro ρ w hH;conv=>whnf
 refine Jv Ja 128 rfl rfl rfl ?_;conv=>whnf
 refine Jv Ja 128 rfl rfl rfl ?_;rw[show(List.replicate 128 (0:UInt8))=L0 from h0.symm];conv=>whnf
 refine Jk (n:=128) (l:=L0) Ja rfl rfl rfl rfl rfl rfl ⟨Nat.le_refl _,Nat.zero_le _, ?_⟩;conv=>whnf
 refine KA (n:=8) (l:=L0) (l':=Vk) Ja rfl rfl rfl rfl rfl rfl rfl rfl rfl (by rw[l0];decide) rfl rfl ?_;rw[show Vk.take 8=Vk from rfl,←h1];conv=>whnf
 refine Jk (n:=128) (l:=L1) Ja rfl rfl rfl rfl rfl rfl ⟨16,rfl,by decide,8,rfl,by decide, ?_⟩;conv=>whnf
 refine Jb (az7 L1 l1 8 8 b.gen (by decide)) rfl rfl ?_;rw[←h2];conv=>whnf
 refine cs ?_;conv=>whnf
 refine Jk (n:=128) (l:=L2) Ja rfl rfl rfl rfl rfl rfl ⟨20,rfl,by decide,16,rfl,by decide, ?_⟩;conv=>whnf
 refine Jb (az7 L2 l2 16 4 b.session (by decide)) rfl rfl ?_;rw[←h3];conv=>whnf
 refine cs ?_;conv=>whnf
 refine Jk (n:=128) (l:=L3) Ja rfl rfl rfl rfl rfl rfl ⟨28,rfl,by decide,20,rfl,by decide, ?_⟩;conv=>whnf
 refine Jb (az7 L3 l3 20 8 b.first (by decide)) rfl rfl ?_;rw[←h4];conv=>whnf
 refine cs ?_;conv=>whnf
 refine Jk (n:=128) (l:=L4) Ja rfl rfl rfl rfl rfl rfl ⟨36,rfl,by decide,28,rfl,by decide, ?_⟩;conv=>whnf
 refine Jb (az7 L4 l4 28 8 b.dropped (by decide)) rfl rfl ?_;rw[←h5];conv=>whnf
 refine cs ?_;conv=>whnf
 refine Jk (n:=128) (l:=L5) Ja rfl rfl rfl rfl rfl rfl ⟨44,rfl,by decide,36,rfl,by decide, ?_⟩;conv=>whnf
 refine KA (n:=8) (l:=L5) (l':=b.link) Ja rfl rfl rfl rfl rfl rfl rfl rfl rfl (by rw[l5];decide) rfl (by rw[hk];rfl) ?_;rw[show b.link.take 8=b.link from List.take_of_length_le (by omega),←h6];conv=>whnf
 refine Jb (cb2 1 (by decide) L6 l6 44 (by decide)) rfl rfl ?_;conv=>whnf
 refine cs ?_;conv=>whnf
 refine Jm (l:=WO 1 L6 44) Ja rfl rfl rfl rfl rfl l7.symm ?_;conv=>whnf
 refine Jp (l':=WO 1 L6 44) Ja rfl rfl rfl rfl rfl l0.symm (by rw[l7,l0]) (by decide) ?_;conv=>whnf
 refine⟨Js (WO 1 L6 44),⟨(Yy l7).1,(by rw[Jo,l7]),rfl⟩, ?_⟩;conv=>whnf
 exact cl
def az8(number session:UInt64)(flags:UInt8)(link text:List UInt8):List UInt8 :=
 Qh (Qh (((Qh (Qh YN 0 (JW 8 number)) 8 (JW 4 session)).set 12 flags).set 13 (UInt8.ofNat text.length)) 14 link) 30 text
def ae4(number session:UInt64)(flags:UInt8)(link text:List UInt8):List UInt8:=WO 2 (az8 number session flags link text) 22
theorem aG3(number session:UInt64)(flags:UInt8)(link text:List UInt8)(hk:link.length=8)(ht:text.length≤90):(az8 number session flags link text).length=128:=by
 unfold az8;refine Qn (Qn ?_ (by omega)) (by omega);rw[List.length_set,List.length_set];exact Qn (Qn rfl (by rw[JU];decide)) (by rw[JU];decide)
theorem aG4(number session:UInt64)(flags:UInt8)(link text:List UInt8)(hk:link.length=8)(ht:text.length≤90):(ae4 number session flags link text).length=128 :=
 Ur _ _ (aG3 number session flags link text hk ht) _ (by decide)
theorem cz8(number session:UInt64)(flags:UInt8)(link text:List UInt8)(hk:link.length=8)(ht:text.length≤90) :
 Triple Tryz.prog 80 [uv number,uv session,bt flags,YC link,YC text] [] 0 (YQ (ae4 number session flags link text)) []:=by
 obtain⟨L0,h0⟩:∃L,L=YN:=⟨_,rfl⟩;obtain⟨L1,h1⟩:∃L,L=Qh L0 0 (JW 8 number):=⟨_,rfl⟩;obtain⟨L2,h2⟩:∃L,L=Qh L1 8 (JW 4 session):=⟨_,rfl⟩;obtain⟨L3,h3⟩:∃L,L=(L2.set 12 flags).set 13 (UInt8.ofNat text.length):=⟨_,rfl⟩;obtain⟨L4,h4⟩:∃L,L=Qh L3 14 link:=⟨_,rfl⟩;obtain⟨L5,h5⟩:∃L,L=Qh L4 30 text:=⟨_,rfl⟩;have l0:L0.length=128:=by rw[h0];rfl
 have l1:L1.length=128:=by rw[h1];exact Qn l0 (by rw[JU];decide)
 have l2:L2.length=128:=by rw[h2];exact Qn l1 (by rw[JU];decide)
 have l3:L3.length=128:=by rw[h3,List.length_set,List.length_set,l2]
 have l4:L4.length=128:=by rw[h4];exact Qn l3 (by omega)
 have l5:L5.length=128:=by rw[h5];exact Qn l4 (by omega)
 have hb:ae4 number session flags link text=WO 2 L5 22:=by rw[h5,h4,h3,h2,h1,h0];rfl
 have l7:(WO 2 L5 22).length=128:=Ur _ _ l5 _ (by decide);rw[hb];refine Jc Ja Tryz.func80 rfl Tryz.call80 rfl ?_;intro ρ w hH;conv=>whnf
 refine Jv Ja 128 rfl rfl rfl ?_;conv=>whnf
 refine Jv Ja 128 rfl rfl rfl ?_;rw[show(List.replicate 128 (0:UInt8))=L0 from h0.symm];conv=>whnf
 refine Jk (n:=128) (l:=L0) Ja rfl rfl rfl rfl rfl rfl ⟨8,rfl,by decide,Nat.zero_le _, ?_⟩;conv=>whnf
 refine Jb (az7 L0 l0 0 8 number (by decide)) rfl rfl ?_;rw[←h1];conv=>whnf
 refine cs ?_;conv=>whnf
 refine Jk (n:=128) (l:=L1) Ja rfl rfl rfl rfl rfl rfl ⟨12,rfl,by decide,8,rfl,by decide, ?_⟩;conv=>whnf
 refine Jb (az7 L1 l1 8 4 session (by decide)) rfl rfl ?_;rw[←h2];conv=>whnf
 refine cs ?_;conv=>whnf
 refine⟨((UInt8.ofNat text.length).toNat:Int),by rw[ao4,UInt8.toNat_ofNat'];show(text.length:Int)%256=_;omega, ?_⟩;conv=>whnf
 refine Qk Ja rfl rfl rfl rfl rfl rfl 12 rfl (by decide) ?_;conv=>whnf
 refine⟨by show 12<L2.length;omega,flags,rfl, ?_⟩;conv=>whnf
 refine Qk Ja rfl rfl rfl rfl rfl rfl 13 rfl (by decide) ?_;conv=>whnf
 refine⟨by show 13<(L2.set 12 flags).length;rw[List.length_set];omega,UInt8.ofNat text.length,rfl, ?_⟩;have e3:((Qr (some 128) L2).setXs ((Qr (some 128) L2).xs.set 12 flags)).setXs (((Qr (some 128) L2).setXs ((Qr (some 128) L2).xs.set 12 flags)).xs.set 13 (UInt8.ofNat text.length))=Qr (some 128) L3:=by rw[h3];rfl
 have e3':=congrArg (fun A=>some (true,SO.arr A)) e3;conv=>whnf
 refine Jk (n:=128) (l:=L3) (own:=true) Ja rfl rfl rfl rfl rfl e3' ⟨22,rfl,by decide,14,rfl,by decide, ?_⟩;conv=>whnf
 refine KA (n:=8) (l:=L3) (fx:=some 128) (l':=link) Ja rfl rfl rfl rfl rfl rfl rfl rfl e3' (by rw[l3];decide) rfl (by rw[hk];rfl) ?_;rw[show link.take 8=link from List.take_of_length_le (by omega),←h4];conv=>whnf
 refine Jk (n:=128) (l:=L4) Ja rfl rfl rfl rfl rfl rfl ⟨Nat.le_refl _,30,rfl,by decide, ?_⟩;conv=>whnf
 refine KA (n:=text.length) (l:=L4) (l':=text) Ja rfl rfl rfl rfl rfl rfl rfl rfl rfl (by rw[l4];decide) rfl (by show min 98 _=_;omega) ?_;rw[show text.take text.length=text from List.take_length,←h5];conv=>whnf
 refine Jb (cb2 2 (by decide) L5 l5 22 (by decide)) rfl rfl ?_;conv=>whnf
 refine cs ?_;conv=>whnf
 refine Jm (l:=WO 2 L5 22) Ja rfl rfl rfl rfl rfl l7.symm ?_;conv=>whnf
 refine Jp (l':=WO 2 L5 22) Ja rfl rfl rfl rfl rfl l0.symm (by rw[l7,l0]) (by decide) ?_;conv=>whnf
 refine⟨Js (WO 2 L5 22),⟨(Yy l7).1,(by rw[Jo,l7]),rfl⟩, ?_⟩;conv=>whnf
 exact cl
def Jd(l:List UInt8)(a b:Nat):List UInt8:=(l.drop a).take (b-a)
def JX(l:List UInt8):Bs:=⟨JJ (Jd l 8 16),JJ (Jd l 20 28),JJ (Jd l 28 36),JJ (Jd l 16 20),Jd l 36 44⟩
theorem Ym(n:Nat)(h:n<18446744073709551616):IntKind.u64.wrap (n:Int)=n:=by
 rw[XC];omega
def JF(l:List UInt8)(number:Nat):Bool :=
 decide (Jd l 0 8=Vk)&&(decide (1≤(JX l).gen.toNat)&&(decide ((JX l).gen.toNat≤4611686018427387904)&&(decide ((JX l).gen.toNat%2=number)&&(decide (1≤(JX l).first.toNat) &&
  (decide ((JX l).first.toNat≤4611686018427387904)&&(decide ((JX l).dropped.toNat≤4611686018427387904)&&Qu 1 l 44))))))
theorem co2(l:List UInt8)(hl:l.length=128)(number:Nat)(hn:number≤100) :
 Triple Tryz.prog 116 [.c (.p 0 0 1 0),iv .i64 number] [(0,false, .arr (Qr (some 128) l))] 1 (.tup [.inr (bsC (JX l)), .inl (.v (.bool (JF l number)))]) []:=by
 refine Jc Ja Tryz.func116 rfl Tryz.call116 rfl ?_;intro ρ w hH;conv=>whnf
 refine Jk (n:=128) (l:=l) Ja rfl rfl rfl rfl rfl rfl ⟨16,rfl,by decide,8,rfl,by decide, ?_⟩;conv=>whnf
 refine Jb (aC7 (some 128) l 8 8 (by omega) (by decide)) rfl rfl ?_;rw[show JJ ((l.drop 8).take 8)=(JX l).gen from rfl];conv=>whnf
 refine cs ?_;conv=>whnf
 refine Jk (n:=128) (l:=l) Ja rfl rfl rfl rfl rfl rfl ⟨28,rfl,by decide,20,rfl,by decide, ?_⟩;conv=>whnf
 refine Jb (aC7 (some 128) l 20 8 (by omega) (by decide)) rfl rfl ?_;rw[show JJ ((l.drop 20).take 8)=(JX l).first from rfl];conv=>whnf
 refine cs ?_;conv=>whnf
 refine Jk (n:=128) (l:=l) Ja rfl rfl rfl rfl rfl rfl ⟨36,rfl,by decide,28,rfl,by decide, ?_⟩;conv=>whnf
 refine Jb (aC7 (some 128) l 28 8 (by omega) (by decide)) rfl rfl ?_;rw[show JJ ((l.drop 28).take 8)=(JX l).dropped from rfl];conv=>whnf
 refine cs ?_;conv=>whnf
 refine Jk (n:=128) (l:=l) Ja rfl rfl rfl rfl rfl rfl ⟨20,rfl,by decide,16,rfl,by decide, ?_⟩;conv=>whnf
 refine Jb (aC7 (some 128) l 16 4 (by omega) (by decide)) rfl rfl ?_;rw[show JJ ((l.drop 16).take 4)=(JX l).session from rfl];conv=>whnf
 refine cs ?_;conv=>whnf
 refine Jk (n:=128) (l:=l) Ja rfl rfl rfl rfl rfl rfl ⟨44,rfl,by decide,36,rfl,by decide, ?_⟩;conv=>whnf
 refine Ju (fx:=some 128) (l:=l) Ja rfl rfl rfl rfl rfl rfl (by show 36+8≤_;omega) ?_;rw[show(l.drop 36).take (JV 44 36)=(JX l).link from rfl];generalize hB:JX l=b;conv=>whnf
 refine Jk (n:=128) (l:=l) Ja rfl rfl rfl rfl rfl rfl ⟨8,rfl,by decide,Nat.zero_le _, ?_⟩;conv=>whnf
 refine Ju (fx:=some 128) (l:=l) Ja rfl rfl rfl rfl rfl rfl (by show 0+8≤_;omega) ?_;rw[show(l.drop 0).take (JV 8 0)=Jd l 0 8 from rfl];conv=>whnf
 refine KI (l:=Jd l 0 8) (l':=Vk) rfl rfl rfl ?_;conv=>whnf
 refine⟨fun hc=>?_,fun hc=>?_⟩
 rotate_left
 ·have c1:¬Jd l 0 8=Vk:=of_decide_eq_false hc;rw[show JF l number=false from by simp[JF,c1]];conv=>whnf
  exact cl
 have c1:Jd l 0 8=Vk:=of_decide_eq_true hc;conv=>whnf
 refine⟨fun hc=>?_,fun hc=>?_⟩
 rotate_left
 ·have c2:¬1≤b.gen.toNat:=by have:=of_decide_eq_false hc;omega
  rw[show JF l number=false from by simp[JF,hB,c2]];conv=>whnf
  exact cl
 have c2:1≤b.gen.toNat:=by have:=of_decide_eq_true hc;omega
 conv=>whnf
 refine⟨fun hc=>?_,fun hc=>?_⟩
 rotate_left
 ·have c3:¬b.gen.toNat≤4611686018427387904:=by have:=of_decide_eq_false hc;omega
  rw[show JF l number=false from by simp[JF,hB,c3]];conv=>whnf
  exact cl
 have c3:b.gen.toNat≤4611686018427387904:=by have:=of_decide_eq_true hc;omega
 conv=>whnf
 refine⟨by decide,((b.gen.toNat%2:Nat):Int), ?_, ?_⟩
 ·exact(Int.ofNat_tmod b.gen.toNat 2).symm
 conv=>whnf
 refine⟨(number:Int),Ym number (by omega), ?_⟩;conv=>whnf
 refine⟨fun hc=>?_,fun hc=>?_⟩
 rotate_left
 ·have c4:¬b.gen.toNat%2=number:=by have:=of_decide_eq_false hc;omega
  rw[show JF l number=false from by simp[JF,hB,c4]];conv=>whnf
  exact cl
 have c4:b.gen.toNat%2=number:=by have:=of_decide_eq_true hc;omega
 conv=>whnf
 refine⟨fun hc=>?_,fun hc=>?_⟩
 rotate_left
 ·have c5:¬1≤b.first.toNat:=by have:=of_decide_eq_false hc;omega
  rw[show JF l number=false from by simp[JF,hB,c5]];conv=>whnf
  exact cl
 have c5:1≤b.first.toNat:=by have:=of_decide_eq_true hc;omega
 conv=>whnf
 refine⟨fun hc=>?_,fun hc=>?_⟩
 rotate_left
 ·have c6:¬b.first.toNat≤4611686018427387904:=by have:=of_decide_eq_false hc;omega
  rw[show JF l number=false from by simp[JF,hB,c6]];conv=>whnf
  exact cl
 have c6:b.first.toNat≤4611686018427387904:=by have:=of_decide_eq_true hc;omega
 conv=>whnf
 refine⟨fun hc=>?_,fun hc=>?_⟩
 rotate_left
 ·have c7:¬b.dropped.toNat≤4611686018427387904:=by have:=of_decide_eq_false hc;omega
  rw[show JF l number=false from by simp[JF,hB,c7]];conv=>whnf
  exact cl
 have c7:b.dropped.toNat≤4611686018427387904:=by have:=of_decide_eq_true hc;omega
 conv=>whnf
 refine Jb (aV8 1 (by decide) l hl 44 (by decide)) rfl rfl ?_;rw[show Qu 1 l 44=JF l number from by simp[JF,hB,c1,c2,c3,c4,c5,c6,c7]];conv=>whnf
 refine cs ?_;conv=>whnf
 exact cl
abbrev aE9(n:Nat):List SC:=[.p 0 0 0 0, .v (.int .i64 0), .v (.int .i64 n)]
theorem bv5(D:Dk)(h:6≤D.length∧D.length≤65536):Triple Tryz.prog 66 [.c (.p 0 0 0 0),iv .i64 0,iv .i64 D.length] (dkH D) 3 (.tup [.inr (aE9 D.length), .inl (.v (.int .i64 0))]) []:=by
 refine Jc Ja Tryz.func66 rfl Tryz.call66 rfl ?_;intro ρ w hH;conv=>whnf
 refine⟨fun hc=>?_,fun hc=>?_⟩
 ·exact absurd (of_decide_eq_true hc) (by omega)
 conv=>whnf
 refine nF fun hc=>?_;conv=>whnf
 refine⟨fun hc=>?_,fun hc=>?_⟩
 ·exact absurd (of_decide_eq_true hc) (by omega)
 conv=>whnf
 refine⟨0,by rw[Int.sub_self];rfl, ?_⟩;conv=>whnf
 refine nF fun hc=>?_;conv=>whnf
 refine nF fun hc=>?_;conv=>whnf
 exact JE
theorem bE8(D:Dk)(i:Nat)(h:i<D.length)(hl:D.length≤65536):Triple Tryz.prog 69 [.agg (aE9 D.length),iv .i64 i] (dkH D) 3 (.c (.p 3 0 1 0)) [(3,true, .arr (Qr (some 128) (XE D[i]).l))]:=by
 refine Jc Ja Tryz.func69 rfl Tryz.call69 rfl ?_;intro ρ w hH;conv=>whnf
 refine⟨(i:Int),by rw[Int.zero_add];exact wO, ?_⟩;conv=>whnf
 refine Jb (cF2 D i h) rfl rfl ?_;conv=>whnf
 refine Qs ?_;conv=>whnf
 refine Jv Ja 128 rfl rfl rfl ?_;conv=>whnf
 refine Jp (l':=(XE D[i]).l) Ja rfl rfl rfl rfl rfl (by simp) (by rw[(XE D[i]).h];simp) (by decide) ?_;conv=>whnf
 exact JE
theorem cb4(D:Dk)(n:Nat)(hn:6≤n∧n≤65536)(q:Nat)(hq:q≤4611686018427387905):Triple Tryz.prog 70 [.agg (aE9 n),iv .u64 q] (dkH D) 3 (iv .i64 ((2+q%(n-2):Nat):Int)) []:=by
 refine Jc Ja Tryz.func70 rfl Tryz.call70 rfl ?_;intro ρ w hH;conv=>whnf
 refine⟨((n-2:Nat):Int),by rw[show(n:Int)-2=((n-2:Nat):Int)from by omega];exact wO, ?_⟩;conv=>whnf
 refine⟨((n-2:Nat):Int),Ym _ (by omega), ?_⟩;conv=>whnf
 have hm:=Nat.mod_lt q (show 0<n-2 by omega);refine⟨by omega,((q%(n-2):Nat):Int),(Int.ofNat_tmod q (n-2)).symm, ?_⟩;conv=>whnf
 refine⟨((q%(n-2):Nat):Int),wO, ?_⟩;conv=>whnf
 refine⟨((2+q%(n-2):Nat):Int),by rw[show(2:Int)+((q%(n-2):Nat):Int)=((2+q%(n-2):Nat):Int)from by omega];exact wO, ?_⟩;conv=>whnf
 exact cl
abbrev Sv:=Bs×Bool×Nat
def Yc(l:List UInt8)(i:Nat)(s:Sv):Sv :=
 if 2≤i then(if Qu 2 l 22 then(s.1,s.2.1,max s.2.2 (JJ (Jd l 8 12)).toNat)else s)
 else if JF l i then(if !s.2.1||decide (s.1.gen.toNat<(JX l).gen.toNat)then(JX l,true,max s.2.2 (JX l).session.toNat)else(s.1,s.2.1,max s.2.2 (JX l).session.toNat))else s
def Qi(D:Dk)(i:Nat):List UInt8:=(XE (D.getD i (JS,none))).l
def YF(D:Dk):Nat→Sv
 |0=>(⟨0,0,0,0,[]⟩,false,0)
 |i+1=>Yc (Qi D i) i (YF D i)
theorem bv6(D:Dk){i:Nat}(h:i<D.length):(XE D[i]).l=Qi D i:=by
 unfold Qi;rw[List.getD_eq_getElem?_getD,List.getElem?_eq_getElem h];rfl
theorem ah5(D:Dk)(i:Nat):(Qi D i).length=128:=(XE _).h
theorem bv7(D:Dk)(hd:6≤D.length∧D.length≤65536)(S:Sv)(hs:YF D D.length=S)(hn:S.2.2≤4611686018427387904):Triple Tryz.prog 67 [.agg (aE9 D.length)] (dkH D) 3
 (.tup [.inr (bsC S.1), .inl (.v (.bool S.2.1)), .inl (.v (.int .u64 ((S.2.2+1:Nat):Int)))]) []:=by
 refine Jc Ja Tryz.func67 rfl Tryz.call67 rfl ?_;intro ρ w hH;conv=>whnf
 refine Jz Ja (G:=Nat×Sv) 0 [] (fun g=>[(11,iv .i64 g.1),(3, .c (.v (.bool g.2.2.1))),(4,iv .u64 g.2.2.2)]) (fun g=>[(4,true, .cells (bsC g.2.1))]) (fun g=>g.1≤D.length∧YF D g.1=g.2) (fun g=>D.length-g.1) ?_;conv=>whnf
 refine⟨⟨(0,YF D 0),⟨Nat.zero_le _,rfl⟩, ?_⟩, ?_⟩
 ·conv=>whnf
  exact JE
 rintro ⟨i,s⟩ ⟨hi,hS⟩ ρ1 t1 hρ1
 have hi:i≤D.length:=hi;have hS:YF D i=s:=hS;conv=>whnf
 refine⟨fun hc=>?_,fun hc=>?_⟩
 rotate_left
 ·have hie:i=D.length:=by have:=of_decide_eq_false hc;omega
  have hsS:s=S:=by rw[←hS,hie,hs]
  subst hsS;conv=>whnf
  refine⟨((s.2.2+1:Nat):Int),Ym (s.2.2+1) (by omega), ?_⟩;conv=>whnf
  exact JE
 have h:i<D.length:=by have:=of_decide_eq_true hc;omega
 conv=>whnf
 refine Jb (bE8 D i h hd.2) rfl rfl ?_;rw[bv6 D h];generalize hL:Qi D i=l;have hl:l.length=128:=by rw[←hL];exact ah5 D i
 conv=>whnf
 refine Qs ?_;conv=>whnf
 refine⟨fun hc=>?_,fun hc=>?_⟩
 ·have c2:2≤i:=by have:=of_decide_eq_true hc;omega
  conv=>whnf
  refine Jb (aV8 2 (by decide) l hl 22 (by decide)) rfl rfl ?_;conv=>whnf
  refine Qs ?_;conv=>whnf
  cases hsl:Qu 2 l 22 with
  |true =>
   refine nT fun hc=>?_;conv=>whnf
   refine Jk (n:=128) (l:=l) Ja rfl rfl rfl rfl rfl rfl ⟨12,rfl,by decide,8,rfl,by decide, ?_⟩;conv=>whnf
   refine Jb (aC7 (some 128) l 8 4 (by omega) (by decide)) rfl rfl ?_;rw[show JJ ((l.drop 8).take 4)=JJ (Jd l 8 12)from rfl];conv=>whnf
   refine cs ?_;have hmx:max (s.2.2:Int) ((JJ (Jd l 8 12)).toNat:Int)=((max s.2.2 (JJ (Jd l 8 12)).toNat:Nat):Int):=by omega
   conv=>whnf
   dsimp only;rw[hmx];conv=>whnf
   refine⟨_,wO, ?_⟩;refine⟨(i+1,(s.1,s.2.1,max s.2.2 (JJ (Jd l 8 12)).toNat)),⟨h, ?_⟩,by show D.length-(i+1)<D.length-i;omega, ?_⟩
   ·show Yc (Qi D i) i (YF D i)=_;rw[hS,hL];simp[Yc,c2,hsl]
   conv=>whnf
   refine⟨rfl, ?_⟩;conv=>whnf
   exact JE
  |false =>
   refine nF fun hc=>?_;conv=>whnf
   refine⟨_,wO, ?_⟩;refine⟨(i+1,s),⟨h, ?_⟩,by show D.length-(i+1)<D.length-i;omega, ?_⟩
   ·show Yc (Qi D i) i (YF D i)=_;rw[hS,hL];simp[Yc,c2,hsl]
   conv=>whnf
   refine⟨rfl, ?_⟩;conv=>whnf
   exact JE
 ·have c2:i<2:=by have:=of_decide_eq_false hc;omega
  have c2':¬2≤i:=by omega
  conv=>whnf
  refine Jb (co2 l hl i (by omega)) rfl rfl ?_;conv=>whnf
  refine Qs ?_;conv=>whnf
  cases hb:JF l i with
  |false =>
   refine nF fun hc=>?_;conv=>whnf
   refine⟨_,wO, ?_⟩;refine⟨(i+1,s),⟨h, ?_⟩,by show D.length-(i+1)<D.length-i;omega, ?_⟩
   ·show Yc (Qi D i) i (YF D i)=_;rw[hS,hL];simp[Yc,c2',hb]
   conv=>whnf
   refine⟨rfl, ?_⟩;conv=>whnf
   exact JE
  |true =>
   refine nT fun hc=>?_;conv=>whnf
   have hmx:max (s.2.2:Int) ((JX l).session.toNat:Int)=((max s.2.2 (JX l).session.toNat:Nat):Int):=by omega
   dsimp only;rw[hmx];cases hi:s.2.1 with
   |false =>
    conv=>whnf
    refine nT fun hc=>?_;conv=>whnf
    conv=>whnf
    refine⟨_,wO, ?_⟩;refine⟨(i+1,(JX l,true,max s.2.2 (JX l).session.toNat)),⟨h, ?_⟩,by show D.length-(i+1)<D.length-i;omega, ?_⟩
    ·show Yc (Qi D i) i (YF D i)=_;rw[hS,hL];simp[Yc,c2',hb,hi]
    conv=>whnf
    refine⟨rfl, ?_⟩;conv=>whnf
    exact JE
   |true =>
    conv=>whnf
    refine nF fun hc=>?_;conv=>whnf
    refine⟨fun hc=>?_,fun hc=>?_⟩
    ·have c3:s.1.gen.toNat<(JX l).gen.toNat:=by have:=of_decide_eq_true hc;omega
     conv=>whnf
     refine⟨_,wO, ?_⟩;refine⟨(i+1,(JX l,true,max s.2.2 (JX l).session.toNat)),⟨h, ?_⟩,by show D.length-(i+1)<D.length-i;omega, ?_⟩
     ·show Yc (Qi D i) i (YF D i)=_;rw[hS,hL];simp[Yc,c2',hb,hi,c3]
     conv=>whnf
     refine⟨rfl, ?_⟩;conv=>whnf
     exact JE
    ·have c3:¬s.1.gen.toNat<(JX l).gen.toNat:=by have:=of_decide_eq_false hc;omega
     conv=>whnf
     refine⟨_,wO, ?_⟩;refine⟨(i+1,(s.1,true,max s.2.2 (JX l).session.toNat)),⟨h, ?_⟩,by show D.length-(i+1)<D.length-i;omega, ?_⟩
     ·show Yc (Qi D i) i (YF D i)=_;rw[hS,hL];simp[Yc,c2',hb,hi,c3]
     conv=>whnf
     refine⟨rfl, ?_⟩;conv=>whnf
     exact JE
def ao8(b:Bs)(hk:b.link.length=8):Sct:=⟨ab4 b,bc1 b hk⟩
theorem cJ0(D:Dk)(hd:6≤D.length∧D.length≤65536)(b:Bs)(hk:b.link.length=8)(i:Nat)(hi:i=b.gen.toNat%2)(h:i<D.length)(hn:D[i].2=none) :
 Triple Tryz.prog 68 [.agg (aE9 D.length), .agg (bsC b)] [(0,true,YE 1 D.length),(1,true,Vc 2 D),(2,true,Vv D)] 3 (iv .i64 0)
  [(0,true,YE 1 D.length),(1,true,Vc 3 (YD (YY D i (ao8 b hk)))),(3,true,Vv (YD (YY D i (ao8 b hk))))]:=by
 have hsl:(YY D i (ao8 b hk)).length=D.length:=GC _ _ _;refine Jc Ja Tryz.func68 rfl Tryz.call68 rfl ?_;intro ρ w hH;conv=>whnf
 refine⟨by decide,((b.gen.toNat%2:Nat):Int),(Int.ofNat_tmod b.gen.toNat 2).symm, ?_⟩;rw[←hi];conv=>whnf
 refine⟨(i:Int),wO, ?_⟩;conv=>whnf
 refine⟨(i:Int),by rw[Int.zero_add];exact wO, ?_⟩;conv=>whnf
 refine Jb (cb3 b hk) rfl rfl ?_;conv=>whnf
 refine Qs ?_;conv=>whnf
 refine Jb (az6 D i h hn (ao8 b hk)) rfl rfl ?_;conv=>whnf
 refine Qs ?_;conv=>whnf
 rw[←JI rfl];refine nF fun hc=>?_;conv=>whnf
 rw[←hsl];refine Jb (cb0 (YY D i (ao8 b hk)) (by omega)) rfl rfl ?_;conv=>whnf
 refine Qs ?_;conv=>whnf
 rw[←JI rfl];exact JE
def Ke:List UInt8:=(Xv 3 [JH 1,JH 1]).take 8
theorem al1:Ke.length=8:=by
 unfold Ke;rw[List.length_take,XL];rfl
def b0:Bs:=⟨1,1,0,1,Ke⟩
def KQ:Sct:=ao8 b0 al1
def Wg(n:Nat):Dk:=YD (YY (Qp n) 1 KQ)
theorem GD(n:Nat):(Wg n).length=n:=by
 unfold Wg;rw[XI,GC,Ka]
theorem cb5{a b:List UInt8}(ha:a.length≤64)(hb:b.length≤64):at9 [a,b] :=
 ⟨by simp,fun p hp=>by simp at hp;rcases hp with rfl|rfl <;> omega⟩
def Sv0:Sv:=(⟨0,0,0,0,[]⟩,false,0)
theorem co3(n:Nat)(hn:6≤n∧n≤65536)(hs:YF (Qp n) n=Sv0) :
 Triple Tryz.prog 30 [.c (.p 0 0 0 0),iv .i64 0,iv .i64 n] [(0,true,YE 1 (Qp n).length),(1,true,Vc 2 (Qp n)),(2,true,Vv (Qp n))] 3 (iv .i64 0)
  [(0,true,YE 1 (Qp n).length),(1,true,Vc 3 (Wg n)),(3,true,Vv (Wg n))]:=by
 have hl:=Ka n;have hln:(n:Int)=((Qp n).length:Int):=by rw[hl]
 have hnd:6≤(Qp n).length∧(Qp n).length≤65536:=by omega
 have hs':YF (Qp n) (Qp n).length=Sv0:=by rw[hl];exact hs
 have hg1:1<(Qp n).length:=by omega
 have hnone:(Qp n)[1].2=none:=by simp[Qp]
 unfold Wg;generalize hD:Qp n=D at hl hln hnd hs' hg1 hnone ⊢;rw[hln];refine Jc Ja Tryz.func30 rfl Tryz.call30 rfl ?_;intro ρ w hH;conv=>whnf
 refine Jb (bv5 D hnd) rfl rfl ?_;conv=>whnf
 refine Qs ?_;conv=>whnf
 refine nF fun hc=>?_;conv=>whnf
 refine Jb (bv7 D hnd Sv0 hs' (by decide)) rfl rfl ?_;conv=>whnf
 refine Qs ?_;conv=>whnf
 refine⟨(1:Int),rfl, ?_⟩;conv=>whnf
 refine⟨fun hc=>absurd hc (by decide),fun hc=>?_⟩;conv=>whnf
 refine⟨fun hc=>absurd hc (by decide),fun hc=>?_⟩;conv=>whnf
 refine⟨(1:Int),rfl, ?_⟩;conv=>whnf
 refine Jb (UY 1 (by decide)) rfl rfl ?_;conv=>whnf
 refine cs ?_;conv=>whnf
 refine⟨(1:Int),rfl, ?_⟩;conv=>whnf
 refine Jb (UY 1 (by decide)) rfl rfl ?_;conv=>whnf
 refine cs ?_;conv=>whnf
 refine Yf Ja (Va [JH 1,JH 1]) rfl rfl ?_;conv=>whnf
 refine⟨⟨rfl,cl⟩, ?_⟩;conv=>whnf
 have hil:=Qz 1;refine Jb (aO9 3 (by decide) [JH 1,JH 1] (cb5 (by omega) (by omega))) rfl rfl ?_;conv=>whnf
 refine cs ?_;have hd:=XL 3 [JH 1,JH 1];have hlk:(Xv 3 [JH 1,JH 1]).take 8=Ke:=rfl;generalize Xv 3 [JH 1,JH 1]=L at hd hlk ⊢;conv=>whnf
 refine Jv Ja 16 rfl rfl rfl ?_;conv=>whnf
 refine Jp (l':=L) Ja rfl rfl rfl rfl rfl (by simp) (by rw[hd];simp) (by decide) ?_;conv=>whnf
 refine Jk (n:=16) (l:=L) Ja rfl rfl rfl rfl rfl rfl ⟨8,rfl,by decide,Nat.zero_le _, ?_⟩;conv=>whnf
 refine Ju (fx:=some 16) (l:=L) Ja rfl rfl rfl rfl rfl rfl (by rw[Jt];omega) ?_;rw[show(L.drop 0).take (JV 8 0)=Ke from hlk];conv=>whnf
 have hlay:=cJ0 D hnd b0 al1 1 (by decide) hg1 hnone;refine Jb hlay rfl rfl ?_;conv=>whnf
 refine Qs ?_;conv=>whnf
 rw[←JI rfl];exact JE
structure Kp where
 text:List UInt8
 fin:Nat
 link:List UInt8
def GK(xs:List Kp):Arr:=⟨Kp,3,fun x=>[WI x.text, .v (.int .u64 x.fin),WI x.link],[],fun _=>rfl,(by intro x c hc k hk;simp at hc;rcases hc with rfl|rfl|rfl <;> cases hk),xs,none,none⟩
abbrev bP2(n:Nat)(b:Bs)(sess kr m:Nat):List SC:=aE9 n++bsC b++[.v (.int .u64 sess), .s kr 0 m 3]
def Jj(l:List UInt8)(i:Nat):UInt8:=l.getD i 0
theorem aF0(l:List UInt8)(i:Nat)(h:i<l.length):l[i]=Jj l i:=by
 unfold Jj;rw[List.getD_eq_getElem?_getD,List.getElem?_eq_getElem h];rfl
structure Fo where
 q:Nat
 link:List UInt8
 text:List UInt8
 ins:Bool
 recs:List Kp
def WD(s:List UInt8)(g:Fo):Bool :=
 !decide ((JJ (Jd s 0 8)).toNat=g.q)||(!decide (Jd s 14 22=g.link)||(!Qu 2 s 22||(decide (90<(Jj s 13).toNat)||(decide (3<(Jj s 12).toNat)||(g.ins==decide (Jj s 12&&&1=1))))))
def Wz(s:List UInt8)(g:Fo):Fo :=
 ⟨g.q+1,Jd s 22 30,(if g.ins then g.text else [])++Jd s 30 (30+(Jj s 13).toNat),decide (Jj s 12&&&2=0),
  if Jj s 12&&&2=0 then g.recs else g.recs++[⟨(if g.ins then g.text else [])++Jd s 30 (30+(Jj s 13).toNat),g.q+1,Jd s 22 30⟩]⟩
def Kq(D:Dk)(n:Nat):Nat→Fo→Fo
 |0,g=>g
 |f+1,g=>if WD (Qi D (2+g.q%(n-2))) g then g else Kq D n f (Wz (Qi D (2+g.q%(n-2))) g)
def GL(D:Dk)(b:Bs):List Kp:=(Kq D D.length (D.length-2) ⟨b.first.toNat,b.link,[],false,[]⟩).recs
structure OpenI (D:Dk) (f0:Nat) (R:List Kp) (k:Nat) (g:Fo):Prop where
 le:k≤D.length-2
 q:g.q=f0+k
 text:g.text.length≤90*k
 recs:g.recs.length≤k
 fin:(Kq D D.length (D.length-2-k) g).recs=R
theorem ar7(x y:UInt8):((x.toNat:Int)==(y.toNat:Int))=decide (x=y):=by
 by_cases h:x=y
 ·subst h;simp
 ·have:¬x.toNat=y.toNat:=fun e=>h (UInt8.toNat_inj.1 e);simp[h];omega
theorem OpenI.next{D:Dk}{f0:Nat}{R:List Kp}{k:Nat}{g:Fo}{s:List UInt8}(h:k<D.length-2)(hq:g.q=f0+k)(htx:g.text.length≤90*k)(hrc:g.recs.length≤k)(h13:(Jj s 13).toNat≤90)
 (hfin:(Kq D D.length (D.length-2-(k+1)) (Wz s g)).recs=R):OpenI D f0 R (k+1) (Wz s g):=by
 refine⟨h,by show g.q+1=_;omega, ?_, ?_,hfin⟩
 ·show((if g.ins then g.text else [])++Jd s 30 (30+(Jj s 13).toNat)).length≤_;rw[List.length_append,Jd,List.length_take];split <;> simp <;> omega
 ·show(if Jj s 12&&&2=0 then g.recs else g.recs++[_]).length≤_;split
  ·omega
  ·rw[List.length_append];simp;omega
theorem cb6(D:Dk)(hd:6≤D.length∧D.length≤65536)(S:Sv)(hs:YF D D.length=S)(hb:S.2.1=true)(hn:S.2.2<4294967295)(hf:S.1.first.toNat≤1000) :
 Triple Tryz.prog 31 [.c (.p 0 0 0 0),iv .i64 0,iv .i64 D.length] (dkH D) 3
  (.tup [.inl (.p 3 0 0 0), .inl (.v (.int .i64 0))]) [(3,true, .cells (bP2 D.length S.1 (S.2.2+1) 4 (GL D S.1).length)),(4,true, .arr (GK (GL D S.1)))]:=by
 refine Jc Ja Tryz.func31 rfl Tryz.call31 rfl ?_;intro ρ w hH;conv=>whnf
 refine Jb (bv5 D hd) rfl rfl ?_;conv=>whnf
 refine Qs ?_;conv=>whnf
 refine nF fun hc=>?_;conv=>whnf
 refine Jb (bv7 D hd S hs (by omega)) rfl rfl ?_;rw[hb];conv=>whnf
 refine Qs ?_;conv=>whnf
 refine nF fun hc=>?_;conv=>whnf
 refine⟨fun hc=>?_,fun hc=>?_⟩
 ·exact absurd (of_decide_eq_true hc) (by omega)
 conv=>whnf
 refine⟨((D.length-2:Nat):Int),by rw[show(D.length:Int)-2=((D.length-2:Nat):Int)from by omega];exact wO, ?_⟩;conv=>whnf
 refine Jz Ja (G:=Nat×Fo) 1 [] (fun x=>[(54,iv .i64 x.1),(14,iv .u64 x.2.q),(15,YC x.2.link),(16,YC x.2.text),(17, .c (.v (.bool x.2.ins)))])
  (fun x=>[(5,true, .cells (bP2 D.length S.1 (S.2.2+1) 6 x.2.recs.length)),(6,true, .arr (GK x.2.recs))]) (fun x=>OpenI D S.1.first.toNat (GL D S.1) x.1 x.2) (fun x=>D.length-2-x.1) ?_
 conv=>whnf
 refine⟨⟨(0,⟨S.1.first.toNat,S.1.link,[],false,[]⟩),⟨Nat.zero_le _,rfl,Nat.le_refl _,Nat.le_refl _,rfl⟩, ?_⟩, ?_⟩
 ·conv=>whnf
  exact JE
 generalize GL D S.1=R
 rintro ⟨k,g⟩ hI ρ1 t1 hρ1
 have hI:OpenI D S.1.first.toNat R k g:=hI;obtain⟨hk,hq,htx,hrc,hfin⟩:=hI;conv=>whnf
 refine⟨fun hc=>?_,fun hc=>?_⟩
 rotate_left
 ·have hke:D.length-2-k=0:=by have:=of_decide_eq_false hc;omega
  have hR:R=g.recs:=by
   rw[←hfin];simp[hke,Kq]
  rw[hR];conv=>whnf
  exact JE
 have h:k<D.length-2:=by have:=of_decide_eq_true hc;omega
 conv=>whnf
 refine⟨fun hc=>?_,fun hc=>?_⟩
 ·have:=of_decide_eq_true hc;dsimp only at this;omega
 conv=>whnf
 refine Jb (cb4 D D.length hd g.q (by omega)) rfl rfl ?_;conv=>whnf
 refine Qs ?_;conv=>whnf
 have hm:=Nat.mod_lt g.q (show 0<D.length-2 by omega);refine Jb (bE8 D (2+g.q%(D.length-2)) (by omega) hd.2) rfl rfl ?_;have hfo:Kq D D.length (D.length-2-k) g=if WD (Qi D (2+g.q%(D.length-2))) g then g else Kq D D.length (D.length-2-(k+1)) (Wz (Qi D (2+g.q%(D.length-2))) g):=by
  rw[show D.length-2-k=(D.length-2-(k+1))+1 from by omega];rfl
 rw[hfo]at hfin;rw[bv6 D (show 2+g.q%(D.length-2)<D.length by omega)];have hsl:=ah5 D (2+g.q%(D.length-2));generalize Qi D (2+g.q%(D.length-2))=s at hfin hsl ⊢;conv=>whnf
 refine Qs ?_;conv=>whnf
 refine Qk Ja rfl rfl rfl rfl rfl rfl 12 rfl (by decide) ?_;conv=>whnf
 refine⟨by show 12<s.length;omega, ?_⟩;have hb12:∀hy,(Qr (some 128) s).xs[12]'hy=Jj s 12:=fun hy=>aF0 s 12 hy;have hb13:∀hy,(Qr (some 128) s).xs[13]'hy=Jj s 13:=fun hy=>aF0 s 13 hy;rw[hb12];conv=>whnf
 refine Qk Ja rfl rfl rfl rfl rfl rfl 13 rfl (by decide) ?_;conv=>whnf
 refine⟨by show 13<s.length;omega, ?_⟩;rw[hb13];have hz:=UX (Jj s 13);conv=>whnf
 refine⟨((Jj s 13).toNat:Int),wO, ?_⟩;conv=>whnf
 refine Jk (n:=128) (l:=s) Ja rfl rfl rfl rfl rfl rfl ⟨8,rfl,by decide,Nat.zero_le _, ?_⟩;conv=>whnf
 refine Jb (aC7 (some 128) s 0 8 (by omega) (by decide)) rfl rfl ?_;rw[show JJ ((s.drop 0).take 8)=JJ (Jd s 0 8)from rfl];conv=>whnf
 refine cs ?_;conv=>whnf
 refine⟨fun hc=>?_,fun hc=>?_⟩
 ·have c1:¬(JJ (Jd s 0 8)).toNat=g.q:=by
   intro e;have hc:(((JJ (Jd s 0 8)).toNat:Int) != (g.q:Int))=true:=hc;simp[e]at hc
  have hbad:WD s g=true:=by simp[WD,c1]
  conv=>whnf
  have hR:R=g.recs:=by
   rw[←hfin];rw[if_pos hbad]
  rw[hR];conv=>whnf
  exact JE
 have c1:(JJ (Jd s 0 8)).toNat=g.q:=by
  have hc:(((JJ (Jd s 0 8)).toNat:Int) != (g.q:Int))=false:=hc;simp at hc;omega
 conv=>whnf
 refine Jk (n:=128) (l:=s) Ja rfl rfl rfl rfl rfl rfl ⟨22,rfl,by decide,14,rfl,by decide, ?_⟩;conv=>whnf
 refine Ju (fx:=some 128) (l:=s) Ja rfl rfl rfl rfl rfl rfl (by show 14+8≤_;omega) ?_;rw[show(s.drop 14).take (JV 22 14)=Jd s 14 22 from rfl];conv=>whnf
 refine ag4 (l:=Jd s 14 22) (l':=g.link) rfl rfl rfl ?_;conv=>whnf
 refine⟨fun hc=>?_,fun hc=>?_⟩
 ·have c2:¬Jd s 14 22=g.link:=by
   intro e;have hc:(!decide (Jd s 14 22=g.link))=true:=hc;simp[e]at hc
  have hbad:WD s g=true:=by simp[WD,c2]
  conv=>whnf
  have hR:R=g.recs:=by
   rw[←hfin];rw[if_pos hbad]
  rw[hR];conv=>whnf
  exact JE
 have c2:Jd s 14 22=g.link:=by
  have hc:(!decide (Jd s 14 22=g.link))=false:=hc
  simpa using hc
 conv=>whnf
 refine Jb (aV8 2 (by decide) s hsl 22 (by decide)) rfl rfl ?_;conv=>whnf
 refine cs ?_;cases c3:Qu 2 s 22 with
 |false =>
  conv=>whnf
  refine nT fun hc=>?_;have hbad:WD s g=true:=by simp[WD,c3]
  conv=>whnf
  have hR:R=g.recs:=by
   rw[←hfin];rw[if_pos hbad]
  rw[hR];conv=>whnf
  exact JE
 |true =>
  conv=>whnf
  refine nF fun hc=>?_;conv=>whnf
  refine⟨fun hc=>?_,fun hc=>?_⟩
  ·have c4:90<(Jj s 13).toNat:=by have:=of_decide_eq_true hc;omega
   have hbad:WD s g=true:=by simp[WD,c4]
   conv=>whnf
   have hR:R=g.recs:=by
    rw[←hfin];rw[if_pos hbad]
   rw[hR];conv=>whnf
   exact JE
  have c4:¬90<(Jj s 13).toNat:=by have:=of_decide_eq_false hc;omega
  conv=>whnf
  refine⟨fun hc=>?_,fun hc=>?_⟩
  ·have c5:3<(Jj s 12).toNat:=by have:=of_decide_eq_true hc;omega
   have hbad:WD s g=true:=by simp[WD,c5]
   conv=>whnf
   have hR:R=g.recs:=by
    rw[←hfin];rw[if_pos hbad]
   rw[hR];conv=>whnf
   exact JE
  have c5:¬3<(Jj s 12).toNat:=by have:=of_decide_eq_false hc;omega
  conv=>whnf
  refine⟨_,aK9 (Jj s 12) 1, ?_⟩;conv=>whnf
  refine⟨fun hc=>?_,fun hc=>?_⟩
  ·have c6:(g.ins==decide (Jj s 12&&&1=1))=true:=by rw[←ar7];exact hc
   have hbad:WD s g=true:=by simp only[WD,c6,Bool.or_true]
   conv=>whnf
   have hR:R=g.recs:=by
    rw[←hfin];rw[if_pos hbad]
   rw[hR];conv=>whnf
   exact JE
  have c6:(g.ins==decide (Jj s 12&&&1=1))=false:=by rw[←ar7];exact hc
  have hbad:WD s g=false:=by simp only[WD,c6,c3,c1,c2,decide_eq_false c4,decide_eq_false c5];rfl
  rw[hbad]at hfin;have hfin:(Kq D D.length (D.length-2-(k+1)) (Wz s g)).recs=R:=hfin;have hnx:=OpenI.next h hq htx hrc (by omega) hfin;cases hin:g.ins with
  |false =>
   conv=>whnf
   refine nT fun hc=>?_;conv=>whnf
   refine⟨(30:Int)+((Jj s 13).toNat:Int),wO, ?_⟩;conv=>whnf
   refine Jk (n:=128) (l:=s) Ja rfl rfl rfl rfl rfl rfl ⟨30+(Jj s 13).toNat,by omega,by omega,30,rfl,by omega, ?_⟩;conv=>whnf
   refine Ju (fx:=some 128) (l:=s) Ja rfl rfl rfl rfl rfl rfl (by rw[Jt];show 30+(30+(Jj s 13).toNat-30)≤_;omega) ?_;rw[show(s.drop 30).take (JV (30+(Jj s 13).toNat) 30)=Jd s 30 (30+(Jj s 13).toNat)from by rw[Jt];rfl];conv=>whnf
   have hsub:(Jd s 30 (30+(Jj s 13).toNat)).length≤90:=by rw[Jd,List.length_take];omega
   refine Yq (l:=([]:List UInt8)) (l':=Jd s 30 (30+(Jj s 13).toNat)) rfl rfl rfl (by exact Nat.le_trans (Nat.le_of_eq (Nat.zero_add _)) (by omega)) ?_;conv=>whnf
   refine⟨((g.q+1:Nat):Int),Ym (g.q+1) (by omega), ?_⟩;conv=>whnf
   refine Jk (n:=128) (l:=s) Ja rfl rfl rfl rfl rfl rfl ⟨30,rfl,by decide,22,rfl,by decide, ?_⟩;conv=>whnf
   refine Ju (fx:=some 128) (l:=s) Ja rfl rfl rfl rfl rfl rfl (by show 22+8≤_;omega) ?_;rw[show(s.drop 22).take (JV 30 22)=Jd s 22 30 from rfl];conv=>whnf
   refine⟨_,aK9 (Jj s 12) 2, ?_⟩;conv=>whnf
   by_cases h2:Jj s 12&&&2=0
   ·have hv:(((Jj s 12&&&2).toNat:Int)==0)=true:=(ar7 _ 0).trans (decide_eq_true h2);have e:Wz s g=⟨g.q+1,Jd s 22 30,([]:List UInt8)++Jd s 30 (30+(Jj s 13).toNat),true,g.recs⟩:=by simp[Wz,hin,h2]
    rw[e]at hnx;refine⟨fun hc=>absurd (show(!(((Jj s 12&&&2).toNat:Int)==0))=true from hc) (by rw[hv];decide),fun hc=>?_⟩;conv=>whnf
    refine⟨_,wO, ?_⟩;refine⟨(k+1,_),hnx,by show D.length-2-(k+1)<D.length-2-k;omega, ?_⟩;conv=>whnf
    refine⟨rfl, ?_⟩;conv=>whnf
    repeat' (first|exact(congrArg (fun b=>(b:Bool)) hv)|exact trivial|exact rfl|refine And.intro ?_ ?_|((conv=>whnf);first|exact(congrArg (fun b=>(b:Bool)) hv)|exact trivial|exact rfl|refine And.intro ?_ ?_|omega))
   ·have hv:(((Jj s 12&&&2).toNat:Int)==0)=false:=(ar7 _ 0).trans (decide_eq_false h2);have e:Wz s g=⟨g.q+1,Jd s 22 30,([]:List UInt8)++Jd s 30 (30+(Jj s 13).toNat),false,g.recs++[⟨([]:List UInt8)++Jd s 30 (30+(Jj s 13).toNat),g.q+1,Jd s 22 30⟩]⟩:=by simp[Wz,hin,h2]
    rw[e]at hnx;refine⟨fun hc=>?_,fun hc=>absurd (show(!(((Jj s 12&&&2).toNat:Int)==0))=false from hc) (by rw[hv];decide)⟩;conv=>whnf
    refine Yf Ja (GK [⟨([]:List UInt8)++Jd s 30 (30+(Jj s 13).toNat),g.q+1,Jd s 22 30⟩]) rfl rfl ?_;conv=>whnf
    refine⟨⟨rfl,cl⟩, ?_⟩;generalize hr:(⟨([]:List UInt8)++Jd s 30 (30+(Jj s 13).toNat),g.q+1,Jd s 22 30⟩:Kp)=r at hnx ⊢;conv=>whnf
    refine VG Ja (GK g.recs) [r] (g.recs++[r]) (fun _=>rfl) rfl rfl rfl rfl ?_;conv=>whnf
    refine⟨⟨rfl,rfl,Nat.le_refl _,Nat.le_refl _,by show(g.recs.length+1)*41≤140737488355328;omega,ab0⟩, ?_⟩;conv=>whnf
    have e3:(g.recs++[r]).length=g.recs.length+1:=by rw[List.length_append];rfl
    refine⟨_,wO, ?_⟩;refine⟨(k+1,_),hnx,by show D.length-2-(k+1)<D.length-2-k;omega, ?_⟩;dsimp only;rw[e3];conv=>whnf
    refine⟨rfl, ?_⟩;conv=>whnf
    repeat' (first|exact hv|exact e3|exact trivial|exact rfl|refine And.intro ?_ ?_|((conv=>whnf);first|exact hv|exact e3|exact trivial|exact rfl|refine And.intro ?_ ?_|omega))
  |true =>
   conv=>whnf
   refine nF fun hc=>?_;conv=>whnf
   refine⟨(30:Int)+((Jj s 13).toNat:Int),wO, ?_⟩;conv=>whnf
   refine Jk (n:=128) (l:=s) Ja rfl rfl rfl rfl rfl rfl ⟨30+(Jj s 13).toNat,by omega,by omega,30,rfl,by omega, ?_⟩;conv=>whnf
   refine Ju (fx:=some 128) (l:=s) Ja rfl rfl rfl rfl rfl rfl (by rw[Jt];show 30+(30+(Jj s 13).toNat-30)≤_;omega) ?_;rw[show(s.drop 30).take (JV (30+(Jj s 13).toNat) 30)=Jd s 30 (30+(Jj s 13).toNat)from by rw[Jt];rfl];conv=>whnf
   have hsub:(Jd s 30 (30+(Jj s 13).toNat)).length≤90:=by rw[Jd,List.length_take];omega
   refine Yq (l:=g.text) (l':=Jd s 30 (30+(Jj s 13).toNat)) rfl rfl rfl (by omega) ?_;conv=>whnf
   refine⟨((g.q+1:Nat):Int),Ym (g.q+1) (by omega), ?_⟩;conv=>whnf
   refine Jk (n:=128) (l:=s) Ja rfl rfl rfl rfl rfl rfl ⟨30,rfl,by decide,22,rfl,by decide, ?_⟩;conv=>whnf
   refine Ju (fx:=some 128) (l:=s) Ja rfl rfl rfl rfl rfl rfl (by show 22+8≤_;omega) ?_;rw[show(s.drop 22).take (JV 30 22)=Jd s 22 30 from rfl];conv=>whnf
   refine⟨_,aK9 (Jj s 12) 2, ?_⟩;conv=>whnf
   by_cases h2:Jj s 12&&&2=0
   ·have hv:(((Jj s 12&&&2).toNat:Int)==0)=true:=(ar7 _ 0).trans (decide_eq_true h2);have e:Wz s g=⟨g.q+1,Jd s 22 30,g.text++Jd s 30 (30+(Jj s 13).toNat),true,g.recs⟩:=by simp[Wz,hin,h2]
    rw[e]at hnx;refine⟨fun hc=>absurd (show(!(((Jj s 12&&&2).toNat:Int)==0))=true from hc) (by rw[hv];decide),fun hc=>?_⟩;conv=>whnf
    refine⟨_,wO, ?_⟩;refine⟨(k+1,_),hnx,by show D.length-2-(k+1)<D.length-2-k;omega, ?_⟩;conv=>whnf
    refine⟨rfl, ?_⟩;conv=>whnf
    repeat' (first|exact(congrArg (fun b=>(b:Bool)) hv)|exact trivial|exact rfl|refine And.intro ?_ ?_|((conv=>whnf);first|exact(congrArg (fun b=>(b:Bool)) hv)|exact trivial|exact rfl|refine And.intro ?_ ?_|omega))
   ·have hv:(((Jj s 12&&&2).toNat:Int)==0)=false:=(ar7 _ 0).trans (decide_eq_false h2);have e:Wz s g=⟨g.q+1,Jd s 22 30,g.text++Jd s 30 (30+(Jj s 13).toNat),false,g.recs++[⟨g.text++Jd s 30 (30+(Jj s 13).toNat),g.q+1,Jd s 22 30⟩]⟩:=by simp[Wz,hin,h2]
    rw[e]at hnx;refine⟨fun hc=>?_,fun hc=>absurd (show(!(((Jj s 12&&&2).toNat:Int)==0))=false from hc) (by rw[hv];decide)⟩;conv=>whnf
    refine Yf Ja (GK [⟨g.text++Jd s 30 (30+(Jj s 13).toNat),g.q+1,Jd s 22 30⟩]) rfl rfl ?_;conv=>whnf
    refine⟨⟨rfl,cl⟩, ?_⟩;generalize hr:(⟨g.text++Jd s 30 (30+(Jj s 13).toNat),g.q+1,Jd s 22 30⟩:Kp)=r at hnx ⊢;conv=>whnf
    refine VG Ja (GK g.recs) [r] (g.recs++[r]) (fun _=>rfl) rfl rfl rfl rfl ?_;conv=>whnf
    refine⟨⟨rfl,rfl,Nat.le_refl _,Nat.le_refl _,by show(g.recs.length+1)*41≤140737488355328;omega,ab0⟩, ?_⟩;conv=>whnf
    have e3:(g.recs++[r]).length=g.recs.length+1:=by rw[List.length_append];rfl
    refine⟨_,wO, ?_⟩;refine⟨(k+1,_),hnx,by show D.length-2-(k+1)<D.length-2-k;omega, ?_⟩;dsimp only;rw[e3];conv=>whnf
    refine⟨rfl, ?_⟩;conv=>whnf
    repeat' (first|exact hv|exact e3|exact trivial|exact rfl|refine And.intro ?_ ?_|((conv=>whnf);first|exact hv|exact e3|exact trivial|exact rfl|refine And.intro ?_ ?_|omega))
end Go.Proofs
