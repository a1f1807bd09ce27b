/-
  A part of the proof that a law answers true: lemmas of a symbolic walk, plain functions, or contracts of the functions walked (QJ, QK, QL, QM, QN, QO, QP, QQ, QR). Conditions: none.
-/
import Derived.Test.YtfcdjkeamldkaaaGreatPart33
set_option maxRecDepth 100000
set_option linter.unusedVariables false
set_option linter.unusedSimpArgs false
namespace Go.Proofs
open Go.Sx
theorem UP:Qu 2 YN 22=false:=by decide +kernel
theorem Gc(i:Nat):JF YN i=false:=by
 have:¬Jd YN 0 8=Vk:=by decide +kernel
 simp[JF,this]
theorem ah7:JF KQ.l 1=true:=by decide +kernel
theorem aj4:(JX KQ.l).first=1:=by decide +kernel
theorem aM7:(JX KQ.l).gen=1:=by decide +kernel
theorem aG5:(JX KQ.l).dropped=0:=by decide +kernel
theorem bl7:(JX KQ.l).session=1:=by decide +kernel
theorem bc7:(JX KQ.l).link=Ke:=by decide +kernel
theorem bc8:JX KQ.l=b0:=by
 have h:∀b:Bs,b.gen=1→b.first=1→b.dropped=0→b.session=1→b.link=Ke→b=b0:=by
  rintro ⟨_,_,_,_,_⟩ rfl rfl rfl rfl rfl;rfl
 exact h _ aM7 aj4 aG5 bl7 bc7
theorem bw2(n i:Nat):Qi (Qp n) i=YN:=by
 unfold Qi Qp;rw[List.getD_eq_getElem?_getD,List.getElem?_replicate];split <;> rfl
theorem aF5(n:Nat):∀i,YF (Qp n) i=Sv0
 |0=>rfl
 |i+1=>by
  show Yc (Qi (Qp n) i) i (YF (Qp n) i)=_;rw[bw2,aF5 n i];unfold Yc;rw[Gc,UP];split <;> rfl
theorem aS6(n:Nat):∀i,XU (Qp n) i=0
 |0=>rfl
 |i+1=>by
  simp only[XU,bw2,Gc,aS6 n i];rfl
theorem ah8(n i:Nat)(hn:2≤n):Qi (Wg n) i=if i=1 then KQ.l else YN:=by
 unfold Qi Wg YD;rw[List.getD_eq_getElem?_getD,List.getElem?_map,Um];unfold Qp;rw[List.getElem?_replicate];by_cases h:i<n
 ·rw[if_pos h];by_cases h1:i=1
  ·subst h1;rfl
  ·simp only[Option.map_some,if_neg h1];rfl
 ·rw[if_neg h,if_neg (by omega)];rfl
theorem aM8(n:Nat)(hn:2≤n):∀i,YF (Wg n) i=if i≤1 then Sv0 else(b0,true,1)
 |0=>rfl
 |i+1=>by
  show Yc (Qi (Wg n) i) i (YF (Wg n) i)=_;rw[ah8 n i hn,aM8 n hn i];by_cases h0:i=0
  ·subst h0;simp[Yc,Gc]
  ·by_cases h1:i=1
   ·subst h1;simp only[Yc,if_neg (show ¬2≤1 by decide),if_pos,ah7,bc8,Nat.le_refl,ite_true];rfl
   ·rw[if_neg h1,if_neg (by omega),if_neg (by omega)];simp[Yc,show 2≤i by omega,UP]
theorem bP8(n:Nat)(hn:2≤n):XU (Wg n) 2=1:=by
 simp only[XU,ah8 n _ hn,Gc];simp[ah7,aM7,Gc]
theorem bw3:b0.first.toNat=1:=rfl
theorem cc9(n:Nat)(hn:6≤n):GL (Wg n) b0=[]:=by
 unfold GL;rw[GD,bw3];obtain⟨m,hm⟩:∃m,n-2=m+1:=⟨n-3,by omega⟩;rw[hm];have h1:1%(m+1)=1:=Nat.mod_eq_of_lt (by omega);have hz:(JJ (Jd YN 0 8)).toNat=0:=by decide +kernel
 have hbad:WD YN ⟨1,b0.link,[],false,[]⟩=true:=by simp[WD,hz]
 show(if WD (Qi (Wg n) (2+1%(n-2))) _ then _ else _:Fo).recs=[];rw[hm,h1,ah8 n _ (by omega),if_neg (show ¬2+1=1 by decide),if_pos hbad]
theorem cA5(n:Nat)(hn:2≤n):aF4 (Wg n) 1=⟨1,2,1,0,Ke⟩:=by
 unfold aF4;rw[ah8 n 1 hn,if_pos rfl,aj4,aG5,bc7];rfl
theorem bP9(n:Nat)(hn:6≤n):aj3 (Wg n) ⟨1,2,1,0,Ke⟩=[]:=by
 unfold aj3;rw[GD];obtain⟨m,hm⟩:∃m,n-2=m+1:=⟨n-3,by omega⟩;rw[hm];have h1:(1+0)%(m+1)=1:=Nat.mod_eq_of_lt (by omega);have hbad:Qj YN (1+0) ⟨Ke,[],0,[]⟩=true:=by simp[Qj,UP]
 show(if Qj (Qi (Wg n) (2+(1+0)%(n-2))) _ _ then _ else _:Xo).recs=[];rw[hm,h1,ah8 n _ (by omega),if_neg (show ¬2+1=1 by decide),if_pos hbad]
structure Kw where
 D:Dk
 q:Nat
 link:List UInt8
 ks:List Kp
 xs:List Xk
 w:Wt
def x0:Xl:=⟨1,2,1,0,Ke⟩
def XX(n:Nat)(s:List UInt8)(g:Kw):Kw :=
 ⟨(WA n 2 s ⟨g.D,g.q,g.link⟩ (Qe s)).D,(WA n 2 s ⟨g.D,g.q,g.link⟩ (Qe s)).q,(WA n 2 s ⟨g.D,g.q,g.link⟩ (Qe s)).link,
  g.ks++[⟨s,(WA n 2 s ⟨g.D,g.q,g.link⟩ (Qe s)).q,(WA n 2 s ⟨g.D,g.q,g.link⟩ (Qe s)).link⟩],
  g.xs++[⟨s,Qe s,(WA n 2 s ⟨g.D,g.q,g.link⟩ (Qe s)).link⟩],YP (WA n 2 s ⟨g.D,g.q,g.link⟩ (Qe s)).D g.w n⟩
def bc9(n:Nat)(g:Kw):Kw:={ g with D:=YD g.D,w:=YP (YD g.D) g.w n }
def Ut(n:Nat)(committed:Int)(k:Nat)(s:List UInt8)(g:Kw):Kw :=
 if(k:Int)+1=committed then bc9 n (XX n s g)else XX n s g
def kw0(n:Nat):Kw:=⟨Wg n,1,Ke,[],[],YP (Wg n) w00 n⟩
def Kf(n:Nat)(committed:Int)(l:List (List UInt8)):Nat→Kw
 |0=>kw0 n
 |k+1=>Ut n committed k (l.getD k []) (Kf n committed l k)
structure KwI (n m:Nat) (k:Nat) (g:Kw):Prop where
 len:g.D.length=n
 q:1≤g.q∧g.q-1+m≤n-2
 ends:au7 b0 g.ks=(g.q,g.link)
 xq:1+Xd g.xs g.xs.length=g.q
 xl:ar9 x0 g.xs=g.link
 hlk:g.link.length=8
 nks:g.ks.length=k
 nxs:g.xs.length=k
 free:UH g.D n g.q m
 fr:∀i,i≤g.xs.length→Xd g.xs i≤g.q
theorem UH.sync{D:Dk}{n q m:Nat}:UH (YD D) n q m:=by
 intro j _ r hr;unfold YD at hr;rw[List.getElem?_map]at hr;cases h:D[2+(q+j)%(n-2)]? with
 |none=>rw[h]at hr;cases hr
 |some r'=>rw[h]at hr;cases hr;rfl
theorem UH.less{D:Dk}{n q m m':Nat}(h:UH D n q m)(hm:m'≤m):UH D n q m':=fun j hj=>h j (by omega)
theorem KwI.app{n m k:Nat}{g:Kw}(h:KwI n m k g)(s:List UInt8)(hs:Qe s≤m):KwI n (m-Qe s) (k+1) (XX n s g):=by
 have hI:=bc3 (sess:=2) (s:=s) (a:=⟨g.D,g.q,g.link⟩) (q0:=g.q) (m:=m) (n:=n) ⟨h.len,rfl,h.hlk,h.free⟩ (by have:=h.q;omega) (Qe s) hs;obtain⟨i1,i2,i3,i4⟩:=hI;have hq:=h.q;have hx:=h.xq;have hfr:=h.fr;have hxl:(XX n s g).xs.length=g.xs.length+1:=by simp[XX]
 have hq':(XX n s g).q=g.q+Qe s:=i2;have hf1:∀i,i≤g.xs.length→Xd (XX n s g).xs i=Xd g.xs i:=fun i hi=>by
  unfold Xd XX;rw[List.take_append_of_le_length hi]
 have hf2:Xd (XX n s g).xs (g.xs.length+1)=Xd g.xs g.xs.length+Qe s:=by
  rw[aM6 _ (by rw[hxl];omega),hf1 _ (Nat.le_refl _)];simp[XX]
 refine⟨i1,⟨by omega,by omega⟩, ?_, ?_, ?_,i3, ?_, ?_, ?_, ?_⟩
 ·simp[XX,au7]
 ·rw[hxl,hf2,hq'];omega
 ·simp[XX,ar9]
 ·simp[XX,h.nks]
 ·rw[hxl,h.nxs]
 ·rw[hq'];exact i4
 ·intro i hi;rw[hxl]at hi;by_cases c:i≤g.xs.length
  ·rw[hf1 i c,hq'];have:=hfr i c;omega
  ·have:i=g.xs.length+1:=by omega
   rw[this,hf2,hq'];omega
theorem KwI.sync{n m k:Nat}{g:Kw}(h:KwI n m k g):KwI n m k (bc9 n g) :=
 ⟨by show(YD g.D).length=n;rw[XI];exact h.len,h.q,h.ends,h.xq,h.xl,h.hlk,h.nks,h.nxs,UH.sync,h.fr⟩
theorem cJ1{n m:Nat}(hn:6≤n)(hm:m≤n-2):KwI n m 0 (kw0 n) :=
 ⟨GD n,⟨Nat.le_refl _,by show 1-1+m≤_;omega⟩,rfl,rfl,rfl,al1,rfl,rfl,UH.sync,fun i hi=>by
  have:i=0:=by simpa [kw0] using hi
  subst this;show 0≤1;omega⟩
def af0(l:List (List UInt8))(k:Nat):Nat:=((l.drop k).map Qe).sum
theorem bd0{l:List (List UInt8)}{k:Nat}(h:k<l.length):af0 l k=Qe l[k]+af0 l (k+1):=by
 unfold af0;rw[List.drop_eq_getElem_cons h];rfl
theorem bQ0{n:Nat}(hn:6≤n)(committed:Int){l:List (List UInt8)}(hl:af0 l 0≤n-2):∀k,k≤l.length→KwI n (af0 l k) k (Kf n committed l k)
 |0,_=>cJ1 hn hl
 |k+1,h=>by
  have ih:=bQ0 hn committed hl k (by omega);have hr:=bd0 (l:=l) (k:=k) (by omega);have e:l.getD k []=l[k]'(by omega):=by rw[List.getD_eq_getElem?_getD,List.getElem?_eq_getElem (by omega)];rfl
  show KwI n _ _ (Ut n committed k (l.getD k []) (Kf n committed l k));rw[e];have ha:=ih.app (l[k]'(by omega)) (by omega);rw[show af0 l k-Qe (l[k]'(by omega))=af0 l (k+1)from by omega]at ha;unfold Ut;split
  ·exact ha.sync
  ·exact ha
abbrev lgC(kd n:Nat)(b:Bs)(sess kr m:Nat):List SC:=[.p kd 0 0 0, .v (.int .i64 0), .v (.int .i64 n)]++bsC b++[.v (.int .u64 sess), .s kr 0 m 3]
abbrev xlD(kd n:Nat)(x:Xl)(kr m:Nat):List SC:=[.p kd 0 0 0, .v (.int .i64 0), .v (.int .i64 n), .v (.int .i64 x.gen), .v (.int .i64 x.sess), .v (.int .i64 x.first), .v (.int .i64 x.gone),WI x.link, .s kr 0 m 3]
abbrev kwH(n:Nat)(g:Kw):Je :=
 [(3,true,YE 2 n),(2,true,Vc 16 g.D),(16,true,Vv g.D),(6,true, .cells (lgC 3 n b0 2 17 g.ks.length)),(17,true, .arr (GK g.ks)),
  (8,true,YE 9 n),(9,true,Vc 18 g.D),(18,true,Vv g.D),(11,true, .cells (xlD 8 n x0 19 g.xs.length)),(19,true, .arr (aXk g.xs)),
  (13,true, .cells [.p 8 0 0 0, .p 11 0 0 0, .v (.int .i64 n), .m 14, .m 15, .v (.bool g.w.clash)]),(14,true,UD g.w.front),(15,true,UD g.w.back)]
theorem bQ1(l:List (List UInt8))(hl:l.length≤1000)(hs:∀s∈l,s.length≤6000)(committed:Int)(n:Nat)(hn:6≤n∧n≤65536)(hr:af0 l 0≤n-2)(keep:List Int)(hk:keep.length≤1000000)(hkb:∀x∈keep,-9223372036854775808≤x∧x≤9223372036854775807)
 (D2:Dk) (hD2:Yp keep (Kf n committed l l.length).D=D2) (hg1:XU D2 2=1) (hb1:JF (Qi D2 1) 1=true) (m0:Nat) (hs1:YF D2 n=(b0,true,m0)) (hm0:m0<4294967295) (hf1:(JX (Qi D2 1)).first.toNat≤1000)
 (hol:(GL D2 b0).length≤100000) (c:Bool) (hc2:(YP D2 (Kf n committed l l.length).w n).clash=c) (R:List (List UInt8)) (hR:(bif c then []else(GL D2 b0).map (·.text))=R) :
 Triple Tryz.prog 8 [.c (.s 0 0 l.length 1),iv .i64 committed,iv .i64 n, .c (.s 1 0 keep.length 1)] [(0,false, .arr (Va l)),(1,false, .arr (Yn keep))] 2 (.tup [.inl (.s 2 0 R.length 1), .inl (.v (.bool true)), .inl (.v (.bool c))]) [(2,true, .arr (Va R))]:=by
 have hl0:=Ka n;have hnd:=cb1 n ⟨by omega,hn.2⟩;have hft:=co3 n hn (aF5 n n);rw[hl0]at hnd hft;have hlf:=GD n;have hop:=cb6 (Wg n) (by rw[hlf];exact hn) (b0,true,1) (by rw[hlf,aM8 n (by omega),if_neg (by omega)]) rfl (by decide) (by decide);dsimp only[dkH]at hop;rw[hlf,cc9 n hn.1]at hop
 have hwt:=cp0 n hn (aF5 n n) (aS6 n 2) (Wg n) rfl (bP8 n (by omega)) (by rw[ah8 n 1 (by omega),if_pos rfl];exact ah7) 1 (by rw[aM8 n (by omega),if_neg (by omega)]) (by decide)
  (by rw[ah8 n 1 (by omega),if_pos rfl,aj4];decide) x0 (cA5 n (by omega)) [] (bP9 n hn.1)
 refine Jc Ja Tryz.func8 rfl Tryz.call8 rfl ?_;intro ρ w hH;conv=>whnf
 refine Jb hnd rfl rfl ?_;conv=>whnf
 refine Qs ?_;conv=>whnf
 rw[←JI rfl];refine nF fun hc=>?_;conv=>whnf
 refine Jb hft rfl rfl ?_;conv=>whnf
 refine Qs ?_;conv=>whnf
 rw[←JI rfl];refine nF fun hc=>?_;conv=>whnf
 refine Jb hop rfl rfl ?_;conv=>whnf
 refine Qs ?_;conv=>whnf
 refine nF fun hc=>?_;conv=>whnf
 refine Jb hwt rfl rfl ?_;conv=>whnf
 refine Qs ?_;conv=>whnf
 rw[←JI rfl];refine Jz Ja (G:=Nat×Kw) 4 [5,7,10,12] (fun g=>[(16,iv .i64 g.1)]) (fun g=>kwH n g.2) (fun g=>g.1≤l.length∧g.2=Kf n committed l g.1) (fun g=>l.length-g.1) ?_;conv=>whnf
 refine⟨⟨(0,kw0 n),⟨Nat.zero_le _,rfl⟩, ?_⟩, ?_⟩
 ·conv=>whnf
  exact JE
 rintro ⟨k,g⟩ ⟨hk1,hg⟩ ρ1 t1 hρ1
 have hk1:k≤l.length:=hk1;have hg:g=Kf n committed l k:=hg;conv=>whnf
 refine⟨fun hc=>?_,fun hc=>?_⟩
 ·have h:k<l.length:=by have:=of_decide_eq_true hc;omega
  have hI:=bQ0 hn.1 committed hr k hk1;rw[←hg]at hI;have hrs:=bd0 h;have hsl:=hs l[k] (List.getElem_mem h);have hst:Kf n committed l (k+1)=Ut n committed k l[k] g:=by
   rw[hg];show Ut n committed k (l.getD k []) _=_;rw[List.getD_eq_getElem?_getD,List.getElem?_eq_getElem h];rfl
  have hq:=hI.q;have hxq:=hI.xq;have hwa:=bA6 g.D n hI.len hn x0 (by decide) g.xs (by rw[hI.nxs];omega) (fun i hi=>by have:=hI.fr i hi;omega) g.q g.link hI.xq hI.xl hI.hlk (by omega) l[k] hsl (by omega) (hI.free.less (by omega)) g.w _ rfl _ rfl;have hla:=co4 g.D (by rw[hI.len];exact hn) b0 2 (by decide) g.ks (by rw[hI.nks];omega) g.q g.link hI.ends hI.hlk (by show 1≤g.q;omega) (by omega) l[k] hsl (by rw[hI.len];show g.q-1+Qe l[k]≤n-2;omega) (by rw[hI.len];exact hI.free.less (by omega));rw[hI.len]at hla;conv=>whnf
  refine⟨k,rfl,h, ?_⟩;conv=>whnf
  refine⟨h, ?_⟩;conv=>whnf
  refine Jb hwa rfl rfl ?_;conv=>whnf
  refine Qs ?_;conv=>whnf
  rw[←JI rfl];refine⟨k,rfl,h, ?_⟩;conv=>whnf
  refine⟨h, ?_⟩;conv=>whnf
  refine Jb hla rfl rfl ?_;conv=>whnf
  refine Qs ?_;conv=>whnf
  rw[←JI rfl];refine nF fun hc=>?_;conv=>whnf
  refine⟨(k:Int)+1,by dsimp only;exact wO, ?_⟩;conv=>whnf
  have ha:XX n l[k] g=⟨(WA n 2 l[k] ⟨g.D,g.q,g.link⟩ (Qe l[k])).D,(WA n 2 l[k] ⟨g.D,g.q,g.link⟩ (Qe l[k])).q,(WA n 2 l[k] ⟨g.D,g.q,g.link⟩ (Qe l[k])).link,
   g.ks++[⟨l[k],(WA n 2 l[k] ⟨g.D,g.q,g.link⟩ (Qe l[k])).q,(WA n 2 l[k] ⟨g.D,g.q,g.link⟩ (Qe l[k])).link⟩],
   g.xs++[⟨l[k],Qe l[k],(WA n 2 l[k] ⟨g.D,g.q,g.link⟩ (Qe l[k])).link⟩],YP (WA n 2 l[k] ⟨g.D,g.q,g.link⟩ (Qe l[k])).D g.w n⟩:=rfl
  by_cases hcm:(k:Int)+1=committed
  ·have hcb:(((k:Int)+1)==committed)=true:=by rw[hcm];exact beq_self_eq_true _
   have hAl:(XX n l[k] g).D.length=n:=(hI.app l[k] (by omega)).len;have hwc:=bA7 (XX n l[k] g).D n hAl hn x0 (XX n l[k] g).xs (XX n l[k] g).w;have hlc:=bA4 (XX n l[k] g).D (by omega) b0 2 (XX n l[k] g).ks;rw[hAl]at hlc;have e3:g.ks.length+1=(XX n l[k] g).ks.length:=by simp[XX]
   refine⟨fun hc=>?_,fun hc=>absurd (show(((k:Int)+1)==committed)=false from hc) (by rw[hcb];decide)⟩;conv=>whnf
   refine Jb hwc rfl rfl ?_;conv=>whnf
   refine Qs ?_;conv=>whnf
   rw[←JI rfl];rw[e3];refine Jb hlc rfl rfl ?_;conv=>whnf
   refine Qs ?_;conv=>whnf
   rw[←JI rfl];refine nF fun hc=>?_;conv=>whnf
   refine⟨_,wO, ?_⟩;refine⟨(k+1,bc9 n (XX n l[k] g)),⟨h,by rw[hst];unfold Ut;rw[if_pos hcm]⟩,by show l.length-(k+1)<l.length-k;omega, ?_⟩;conv=>whnf
   refine⟨rfl, ?_⟩;conv=>whnf
   exact JE
  ·have hcb:(((k:Int)+1)==committed)=false:=beq_false_of_ne hcm;refine⟨fun hc=>absurd (show(((k:Int)+1)==committed)=true from hc) (by rw[hcb];decide),fun hc=>?_⟩;conv=>whnf
   refine⟨_,wO, ?_⟩;refine⟨(k+1,XX n l[k] g),⟨h,by rw[hst];unfold Ut;rw[if_neg hcm]⟩,by show l.length-(k+1)<l.length-k;omega, ?_⟩;have e3:g.ks.length+1=(XX n l[k] g).ks.length:=by simp[XX]
   rw[ha]at e3 ⊢;conv=>whnf
   refine⟨rfl, ?_⟩;conv=>whnf
   repeat' (first|exact(JI rfl)|exact e3|exact trivial|exact rfl|refine And.intro ?_ ?_|((conv=>whnf);first|exact(JI rfl)|exact e3|exact trivial|exact rfl|refine And.intro ?_ ?_|omega))
 ·have hke:k=l.length:=by have:=of_decide_eq_false hc;omega
  subst hke;rw[←hg]at hD2 hc2;have hI:=bQ0 hn.1 committed hr l.length (Nat.le_refl _);rw[←hg]at hI;have hcx:=bP7 n hn g.D hI.len keep hk hkb D2 hD2 hg1 hb1 m0 (by rw[hs1]) hm0 hf1 g.w;rw[hc2]at hcx;have hcp:=cz6 g.D keep (by rw[hI.len];omega) hk hkb;have hl2:D2.length=n:=by rw[←hD2,Ko,hI.len]
  rw[hI.len,hD2,hl2]at hcp;conv=>whnf
  refine Jb hcx rfl rfl ?_;conv=>whnf
  refine Qs ?_;conv=>whnf
  refine Jb hcp rfl rfl ?_;conv=>whnf
  refine Qs ?_;conv=>whnf
  rw[←JI rfl];have hop2:=cb6 D2 (by rw[hl2];exact hn) (b0,true,m0) (by rw[hl2,hs1]) rfl hm0 (show(1:Nat)≤1000 by decide);dsimp only[dkH]at hop2;rw[hl2]at hop2;cases c with
  |true =>
   subst hR;refine nT fun hc=>?_;conv=>whnf
   exact JE
  |false =>
   subst hR;refine nF fun hc=>?_;conv=>whnf
   refine Jb hop2 rfl rfl ?_;conv=>whnf
   refine Qs ?_;conv=>whnf
   refine nF fun hc=>?_;conv=>whnf
   have hrec:=cb7 D2 b0 (m0+1) (GL D2 b0) hol;dsimp only[lgH]at hrec;rw[hl2]at hrec;have e5:((GL D2 b0).map (·.text)).length=(GL D2 b0).length:=List.length_map _;refine Jb hrec rfl rfl ?_;conv=>whnf
   refine Qs ?_;conv=>whnf
   repeat' (first|exact(JI rfl)|exact e5.symm|exact trivial|exact rfl|refine And.intro ?_ ?_|((conv=>whnf);first|exact(JI rfl)|exact e5.symm|exact trivial|exact rfl|refine And.intro ?_ ?_|omega))
theorem aF6(keep:List Int):∀(D:Dk) (m i:Nat) (r:Sct×Option Sct),D[i]? = some r→∃x:Int,(Vb keep m D)[i]? = some (match r.2 with|none=>r.1|some q=>Qx r.1 q x)
 | [],_,_,_,h=>by cases h
 |(d,none)::D,m,0,r,h=>by cases h;exact⟨0,rfl⟩
 |(d,some q)::D,m,0,r,h=>by cases h;exact⟨Kb keep m,rfl⟩
 |(d,none)::D,m,i+1,r,h=>by
  obtain⟨x,hx⟩:=aF6 keep D m i r h;exact⟨x,hx⟩
 |(d,some q)::D,m,i+1,r,h=>by
  obtain⟨x,hx⟩:=aF6 keep D (m+1) i r h;exact⟨x,hx⟩
theorem bA8(d q:Sct)(x:Int):Qx d q x=d∨Qx d q x=q∨Qx d q x=Yh d q:=by
 unfold Qx;split
 ·exact .inl rfl
 ·split
  ·exact .inr (.inl rfl)
  ·exact .inr (.inr rfl)
theorem bG0(n:Nat):∀x:UInt64,n≤8→(JJ (JW n x)).toNat=x.toNat%2 ^ (8*n):=by
 induction n with
 |zero=>intro x _;simp[JJ,JW,Nat.mod_one]
 |succ n ih =>
  intro x hn;rw[JW,at8];have h:=ih (x>>>UInt64.ofNat 8) (by omega);generalize JJ (JW n (x>>>UInt64.ofNat 8))=a at h ⊢;have e:(UInt64.ofNat 8).toNat%64=8:=by decide
  have hs:(x>>>UInt64.ofNat 8).toNat=x.toNat/256:=by
   rw[UInt64.toNat_shiftRight,e,Nat.shiftRight_eq_div_pow]
  have h2:(a<<<UInt64.ofNat 8).toNat=2 ^ 8*(a.toNat%2 ^ 56):=by
   rw[UInt64.toNat_shiftLeft,e,Nat.shiftLeft_eq];omega
  have hb:x.toUInt8.toNat=x.toNat%256:=UInt64.toNat_toUInt8 x;have hp:2 ^ (8*n)≤2 ^ 56:=Nat.pow_le_pow_right (by decide) (by omega);have hlt:a.toNat<2 ^ 56:=by rw[h];exact Nat.lt_of_lt_of_le (Nat.mod_lt _ (Nat.two_pow_pos _)) hp
  rw[UInt64.toNat_or,h2,UInt8.toNat_toUInt64,←Nat.two_pow_add_eq_or_of_lt (by rw[hb];omega),Nat.mod_eq_of_lt hlt,h,hs,hb,show 8*(n+1)=8+8*n from by omega,Nat.pow_add,Nat.mod_mul,show(2:Nat) ^ 8=256 from rfl];exact Nat.add_comm _ _
theorem aW2(l:List UInt8)(a b i:Nat):(Jd l a b)[i]? = if i<b-a then l[a+i]? else none:=by
 unfold Jd;rw[List.getElem?_take];split
 ·rw[List.getElem?_drop]
 ·rfl
theorem aQ2{l r:List UInt8}{a b:Nat}(hr:r.length=b-a)(h:∀i,i<b-a→l[a+i]? = r[i]?):Jd l a b=r:=by
 refine List.ext_getElem? fun i=>?_;rw[aW2];split
 ·rename_i hi;exact h i hi
 ·rename_i hi;rw[List.getElem?_eq_none (by omega)]
theorem ah9{l d:List UInt8}(hl:l.length=128)(hd:d.length=16){mark:Nat}(hm:mark≤112)(i:Nat) :
 (Wd l mark d)[i]? = if 120≤i∧i<128 then(d.drop 8)[i-120]? else if mark≤i∧i<mark+8 then(d.take 8)[i-mark]? else l[i]?:=by
 have hB:(d.take 8).length=8:=by rw[List.length_take];omega
 have hD:(d.drop 8).length=8:=by rw[List.length_drop];omega
 have g0:=Vy (xs:=l) (ys:=d.take 8) (o:=mark) (by omega);have g1:=Wf (xs:=Qh l mark (d.take 8)) (ys:=d.drop 8) (o:=120) (i:=i) (by omega);have g2:=Wf (xs:=l) (ys:=d.take 8) (o:=mark) (i:=i) (by omega);unfold Wd;rw[g1,g2,hB,hD]
theorem aF7(tag:Int)(l:List UInt8)(mark:Nat):WO tag l mark=Wd l mark (JT tag l mark):=rfl
theorem aM9(tag:Int){l l':List UInt8}{mark:Nat}(h:∀i,i<mark∨(mark+8≤i∧i<120)→l[i]? = l'[i]?):JT tag l mark=JT tag l' mark:=by
 unfold JT;have e1:l.take mark=l'.take mark:=List.ext_getElem? fun i=>by
  rw[List.getElem?_take,List.getElem?_take];split
  ·rename_i hi;exact h i (.inl hi)
  ·rfl
 have e2:(l.take 120).drop (mark+8)=(l'.take 120).drop (mark+8):=List.ext_getElem? fun i=>by
  rw[List.getElem?_drop,List.getElem?_drop,List.getElem?_take,List.getElem?_take];split
  ·rename_i hi;exact h _ (.inr ⟨by omega,hi⟩)
  ·rfl
 rw[e1,e2]
theorem bA9(tag:Int){l:List UInt8}(hl:l.length=128){mark:Nat}(hm:mark≤112):JT tag (WO tag l mark) mark=JT tag l mark:=by
 refine aM9 tag fun i hi=>?_;rw[aF7,ah9 hl (Qt _ _ _) hm,if_neg (by omega),if_neg (by omega)]
theorem bB0(tag:Int){l:List UInt8}(hl:l.length=128){mark:Nat}(hm:mark≤112):Qu tag (WO tag l mark) mark=true:=by
 have hs:=Ur tag l hl mark hm;have hd:=Qt tag l mark;show(decide _&&decide _)=true;rw[←aA0 hs (Qt _ _ _) hm,bA9 tag hl hm];refine decide_eq_true (List.ext_getElem? fun i=>?_);rw[ah9 hs hd hm,aF7,ah9 hl hd hm];split
 ·rfl
 ·split
  ·rfl
  ·rfl
theorem bQ2(number session:UInt64)(flags:UInt8){link text:List UInt8}(hk:link.length=8)(ht:text.length≤90)(i:Nat) :
  (az8 number session flags link text)[i]? = if 30≤i∧i<30+text.length then text[i-30]? else if 14≤i∧i<22 then link[i-14]? else
   if i=13 then some (UInt8.ofNat text.length)else if i=12 then some flags else if 8≤i∧i<12 then(JW 4 session)[i-8]? else if i<8 then(JW 8 number)[i]? else YN[i]?:=by
 have s8:=JU 8 number;have s4:=JU 4 session;have z:YN.length=128:=rfl;have l1:(Qh YN 0 (JW 8 number)).length=128:=Qn z (by rw[s8];decide);have l2:(Qh (Qh YN 0 (JW 8 number)) 8 (JW 4 session)).length=128:=Qn l1 (by rw[s4];decide);have l3:(((Qh (Qh YN 0 (JW 8 number)) 8 (JW 4 session)).set 12 flags).set 13 (UInt8.ofNat text.length)).length=128:=by rw[List.length_set,List.length_set,l2]
 have l4:=Qn (ys:=link) (o:=14) l3 (by omega);unfold az8;rw[Wf (by omega),Wf (by omega),List.getElem?_set,List.getElem?_set,Wf (by omega),Wf (by omega),s8,s4,hk,List.length_set,l2];have e:∀i,i-0=i:=fun i=>Nat.sub_zero i;by_cases c1:30≤i∧i<30+text.length
 ·rw[if_pos c1,if_pos c1]
 rw[if_neg c1,if_neg c1];by_cases c2:14≤i∧i<22
 ·rw[if_pos c2,if_pos c2]
 rw[if_neg c2,if_neg c2];by_cases c3:i=13
 ·rw[if_pos c3.symm,if_pos c3,if_pos (by decide)]
 rw[if_neg (Ne.symm c3),if_neg c3];by_cases c4:i=12
 ·rw[if_pos c4.symm,if_pos c4,if_pos (by decide)]
 rw[if_neg (Ne.symm c4),if_neg c4];by_cases c5:8≤i∧i<12
 ·rw[if_pos c5,if_pos c5]
 rw[if_neg c5,if_neg c5];by_cases c6:i<8
 ·rw[if_pos ⟨Nat.zero_le _,by omega⟩,if_pos c6,Nat.sub_zero]
 ·rw[if_neg (by omega),if_neg c6]
structure FrameIs (F:List UInt8) (number session:UInt64) (flags:UInt8) (link text:List UInt8):Prop where
 len:F.length=128
 num:Jd F 0 8=JW 8 number
 ses:Jd F 8 12=JW 4 session
 flg:Jj F 12=flags
 cnt:Jj F 13=UInt8.ofNat text.length
 lnk:Jd F 14 22=link
 txt:Jd F 30 (30+text.length)=text
 sld:Qu 2 F 22=true
theorem cd0(number session:UInt64)(flags:UInt8){link text:List UInt8}(hk:link.length=8)(ht:text.length≤90):FrameIs (ae4 number session flags link text) number session flags link text:=by
 have hl:=aG3 number session flags link text hk ht;have g6:=bQ2 number session flags hk ht;have hg:∀i,i<22∨(30≤i∧i<120)→(ae4 number session flags link text)[i]? = (az8 number session flags link text)[i]?:=fun i hi=>by
  unfold ae4;rw[aF7,ah9 hl (Qt _ _ _) (by decide),if_neg (by omega),if_neg (by omega)]
 refine⟨aG4 _ _ _ _ _ hk ht, ?_, ?_, ?_, ?_, ?_, ?_,bB0 2 hl (by decide)⟩
 ·refine aQ2 (JU _ _) fun i hi=>?_;rw[hg _ (by omega),g6,if_neg (by omega),if_neg (by omega),if_neg (by omega),if_neg (by omega),if_neg (by omega),if_pos (by omega),Nat.zero_add]
 ·refine aQ2 (JU _ _) fun i hi=>?_;rw[hg _ (by omega),g6,if_neg (by omega),if_neg (by omega),if_neg (by omega),if_neg (by omega),if_pos (by omega),Nat.add_sub_cancel_left]
 ·unfold Jj;rw[List.getD_eq_getElem?_getD,hg _ (by omega),g6,if_neg (by omega),if_neg (by omega),if_neg (by omega),if_pos rfl];rfl
 ·unfold Jj;rw[List.getD_eq_getElem?_getD,hg _ (by omega),g6,if_neg (by omega),if_neg (by omega),if_pos rfl];rfl
 ·refine aQ2 (by rw[hk]) fun i hi=>?_;rw[hg _ (by omega),g6,if_neg (by omega),if_pos (by omega),Nat.add_sub_cancel_left]
 ·refine aQ2 (by omega) fun i hi=>?_;rw[hg _ (by omega),g6,if_pos (by omega),Nat.add_sub_cancel_left]
def GE:List (List UInt8)→Nat→UInt8×List UInt8
 | [],_=>(0,[])
 |s::r,j=>if j<Qe s then(Vi j (Qe s),Qa s j)else GE r (j-Qe s)
theorem aw8:∀(l:List (List UInt8)) (j:Nat),(GE l j).2.length≤90
 | [],_=>Nat.zero_le _
 |s::r,j=>by
  unfold GE;split
  ·exact Wj s j
  ·exact aw8 r _
def Yr(l:List (List UInt8))(i:Nat):Nat:=((l.take i).map Qe).sum
theorem aN0(l:List (List UInt8)):Yr l 0=0:=rfl
theorem ac4{l:List (List UInt8)}{i:Nat}(h:i<l.length):Yr l (i+1)=Yr l i+Qe l[i]:=by
 unfold Yr;rw[JR h,List.map_append,List.sum_append];simp
theorem av0(l:List (List UInt8)){i j:Nat}(h:i≤j):Yr l i≤Yr l j:=by
 induction j with
 |zero=>rw[Nat.le_zero.1 h];exact Nat.le_refl _
 |succ j ih =>
  by_cases e:i=j+1
  ·rw[e];exact Nat.le_refl _
  ·have:=ih (by omega);by_cases hj:j<l.length
   ·rw[ac4 hj];omega
   ·unfold Yr at this ⊢;rw[List.take_of_length_le (by omega:l.length≤j+1)];rwa[List.take_of_length_le (by omega:l.length≤j)]at this
theorem cd1(l:List (List UInt8))(i:Nat):Yr l i+af0 l i=Yr l l.length:=by
 unfold Yr af0;rw[←List.sum_append,←List.map_append,List.take_append_drop,List.take_of_length_le (Nat.le_refl _)]
theorem aF8:∀(l:List (List UInt8)) (i k:Nat) (h:i<l.length),k<Qe l[i]→GE l (Yr l i+k)=(Vi k (Qe l[i]),Qa l[i] k)
 | [],_,_,h,_=>absurd h (Nat.not_lt_zero _)
 |s::r,0,k,_,hk=>by
  have hk:k<Qe s:=hk;have e:Yr (s::r) 0+k=k:=by rw[aN0,Nat.zero_add]
  rw[e];show(if k<Qe s then _ else _)=_;rw[if_pos hk];rfl
 |s::r,i+1,k,h,hk=>by
  have h':i<r.length:=by simpa using h
  have e:Yr (s::r) (i+1)=Qe s+Yr r i:=by simp[Yr]
  rw[e];show(if Qe s+Yr r i+k<Qe s then _ else _)=_;rw[if_neg (by omega),show Qe s+Yr r i+k-Qe s=Yr r i+k from by omega];exact aF8 r i k h' hk
def lkF(l:List (List UInt8)):Nat→List UInt8
 |0=>Ke
 |j+1=>Jd (YA (j+1) 2 (GE l j).1 (lkF l j) (GE l j).2).l 22 30
def KW(l:List (List UInt8))(j:Nat):Sct:=YA (j+1) 2 (GE l j).1 (lkF l j) (GE l j).2
theorem cp1(l:List (List UInt8))(j:Nat):lkF l (j+1)=Jd (KW l j).l 22 30:=rfl
theorem bG1(l:List (List UInt8)):∀j,(lkF l j).length=8
 |0=>al1
 |j+1=>by rw[cp1,Jd,List.length_take,List.length_drop,(KW l j).h];rfl
theorem bw4(l:List (List UInt8))(j:Nat):FrameIs (KW l j).l (UInt64.ofNat (j+1)) (UInt64.ofNat 2) (GE l j).1 (lkF l j) (GE l j).2:=by
 unfold KW;rw[aW0 _ _ _ (bG1 l j) (aw8 l j)];exact cd0 _ _ _ (bG1 l j) (aw8 l j)
def Xe(n j:Nat):Nat:=2+(j+1)%(n-2)
theorem as0{n j:Nat}(hn:6≤n)(h:j<n-2):Xe n j=if j+3=n then 2 else j+3:=by
 unfold Xe;split
 ·have e:j+1=n-2:=by omega
  rw[e,Nat.mod_self]
 ·rw[Nat.mod_eq_of_lt (by omega)];omega
theorem aW3{n j:Nat}(hn:6≤n)(h:j<n-2):2≤Xe n j∧Xe n j<n:=by
 rw[as0 hn h];split <;> omega
theorem cd2{n i j:Nat}(hn:6≤n)(hi:i<n-2)(hj:j<n-2)(h:Xe n i=Xe n j):i=j:=by
 rw[as0 hn hi,as0 hn hj]at h;revert h;split <;> split <;> intro h <;> omega
theorem aN1{n i:Nat}(hn:6≤n)(h2:2≤i)(h:i<n):∃j,j<n-2∧Xe n j=i:=by
 by_cases e:i=2
 ·exact⟨n-3,by omega,by rw[as0 hn (by omega),if_pos (by omega),e]⟩
 ·exact⟨i-3,by omega,by rw[as0 hn (by omega),if_neg (by omega)];omega⟩
structure LayI (n:Nat) (F:Nat→Sct) (D:Dk) (cnt dur:Nat):Prop where
 len:D.length=n
 le:dur≤cnt
 z:D[0]? = some (JS,none)
 b:D[1]? = some (KQ,none)
 at_:∀j,j<n-2→D[Xe n j]? = some (if j<dur then(F j,none)else if j<cnt then(JS,some (F j))else(JS,none))
theorem LayI.new{n:Nat}(hn:6≤n)(F:Nat→Sct):LayI n F (Wg n) 0 0:=by
 have hg:∀i,i<n→(Wg n)[i]? = some (if i=1 then KQ else JS,none):=fun i hi=>by
  unfold Wg YD;rw[List.getElem?_map,Um];unfold Qp;rw[List.getElem?_replicate,if_pos hi];by_cases h1:i=1
  ·subst h1;rfl
  ·simp only[Option.map_some,if_neg h1];rfl
 refine⟨GD n,Nat.le_refl _,hg 0 (by omega),hg 1 (by omega),fun j hj=>?_⟩;have:=aW3 hn hj;rw[hg _ this.2,if_neg (by omega),if_neg (by omega),if_neg (by omega)]
theorem LayI.write{n:Nat}(hn:6≤n){F:Nat→Sct}{D:Dk}{cnt dur:Nat}(h:LayI n F D cnt dur)(hc:cnt<n-2):LayI n F (YY D (Xe n cnt) (F cnt)) (cnt+1) dur:=by
 have hs:=aW3 hn hc;have hle:=h.le;refine⟨by rw[GC];exact h.len,by omega, ?_, ?_,fun j hj=>?_⟩
 ·rw[Um,h.z,Option.map_some,if_neg (by omega)]
 ·rw[Um,h.b,Option.map_some,if_neg (by omega)]
 ·rw[Um,h.at_ j hj,Option.map_some];by_cases e:j=cnt
  ·subst e;rw[if_pos rfl,if_neg (by omega),if_neg (by omega),if_neg (by omega),if_pos (by omega)]
  ·rw[if_neg fun e'=>e (cd2 hn hj hc e')];by_cases c1:j<dur
   ·rw[if_pos c1,if_pos c1]
   ·rw[if_neg c1,if_neg c1];by_cases c2:j<cnt
    ·rw[if_pos c2,if_pos (by omega)]
    ·rw[if_neg c2,if_neg (by omega)]
theorem LayI.sync{n:Nat}{F:Nat→Sct}{D:Dk}{cnt dur:Nat}(h:LayI n F D cnt dur):LayI n F (YD D) cnt cnt:=by
 have hle:=h.le;have hg:∀i r,D[i]? = some r→(YD D)[i]? = some (XE r,none):=fun i r hr=>by
  unfold YD;rw[List.getElem?_map,hr];rfl
 refine⟨by rw[XI];exact h.len,Nat.le_refl _,hg _ _ h.z,hg _ _ h.b,fun j hj=>?_⟩;rw[hg _ _ (h.at_ j hj)];by_cases c1:j<dur
 ·rw[if_pos c1,if_pos (by omega)];rfl
 ·rw[if_neg c1];by_cases c2:j<cnt
  ·rw[if_pos c2,if_pos c2];rfl
  ·rw[if_neg c2,if_neg c2];rfl
structure KwL (n:Nat) (l:List (List UInt8)) (i dur:Nat) (g:Kw):Prop where
 lay:LayI n (KW l) g.D (Yr l i) dur
 q:g.q=Yr l i+1
 link:g.link=lkF l (Yr l i)
 w:∃w',g.w=YP g.D w' n
theorem ct0{n:Nat}(hn:6≤n){l:List (List UInt8)}(hl:Yr l l.length≤n-2){i dur:Nat}(hi:i<l.length){g:Kw}(h:KwL n l i dur g):∀k,k≤Qe l[i] →
 LayI n (KW l) (WA n 2 l[i] ⟨g.D,g.q,g.link⟩ k).D (Yr l i+k) dur∧(WA n 2 l[i] ⟨g.D,g.q,g.link⟩ k).q=Yr l i+k+1∧(WA n 2 l[i] ⟨g.D,g.q,g.link⟩ k).link=lkF l (Yr l i+k)
 |0,_=>⟨h.lay,h.q,h.link⟩
 |k+1,hk=>by
  obtain⟨i1,i2,i3⟩:=ct0 hn hl hi h k (by omega);have hp:=aF8 l i k hi (by omega);have hm:=av0 l (show i+1≤l.length by omega);rw[ac4 hi]at hm;have hf:KW l (Yr l i+k)=YA (Yr l i+k+1) 2 (Vi k (Qe l[i])) (lkF l (Yr l i+k)) (Qa l[i] k):=by
   unfold KW;rw[hp]
  show LayI n (KW l) (XT n 2 l[i] k _).D _ _∧(XT n 2 l[i] k _).q=_∧(XT n 2 l[i] k _).link=_;generalize WA n 2 l[i] ⟨g.D,g.q,g.link⟩ k=a at i1 i2 i3;unfold XT;rw[i2,i3,←hf];exact⟨i1.write hn (by omega),by show _+1=_;omega,rfl⟩
theorem KwL.app{n:Nat}(hn:6≤n){l:List (List UInt8)}(hl:Yr l l.length≤n-2){i dur:Nat}(hi:i<l.length){g:Kw}(h:KwL n l i dur g):KwL n l (i+1) dur (XX n l[i] g):=by
 obtain⟨i1,i2,i3⟩:=ct0 hn hl hi h (Qe l[i]) (Nat.le_refl _);rw[←ac4 hi]at i1 i2 i3;exact⟨i1,i2,i3,⟨g.w,rfl⟩⟩
theorem KwL.sync{n:Nat}{l:List (List UInt8)}{i dur:Nat}{g:Kw}(h:KwL n l i dur g):KwL n l i (Yr l i) (bc9 n g) :=
 ⟨h.lay.sync,h.q,h.link,⟨g.w,rfl⟩⟩
theorem cJ2{n:Nat}(hn:6≤n)(l:List (List UInt8)):KwL n l 0 0 (kw0 n):=⟨LayI.new hn _,rfl,rfl,⟨w00,rfl⟩⟩
theorem bd1{n:Nat}(hn:6≤n){l:List (List UInt8)}(hl:Yr l l.length≤n-2)(committed:Int):∀i,i≤l.length →
 ∃dur,KwL n l i dur (Kf n committed l i)∧(1≤committed→committed≤i→Yr l committed.toNat≤dur)
 |0,_=>⟨0,cJ2 hn l,fun h1 h2=>by have h2:committed≤0:=h2;omega⟩
 |i+1,h=>by
  obtain⟨dur,i1,i2⟩:=bd1 hn hl committed i (by omega);have e:l.getD i []=l[i]'(by omega):=by rw[List.getD_eq_getElem?_getD,List.getElem?_eq_getElem (by omega)];rfl
  show ∃dur,KwL n l (i+1) dur (Ut n committed i (l.getD i []) (Kf n committed l i))∧_;rw[e];have ha:=i1.app hn hl (by omega);unfold Ut;by_cases hc:(i:Int)+1=committed
  ·rw[if_pos hc];refine⟨_,ha.sync,fun _ _=>?_⟩;have:committed.toNat=i+1:=by omega
   rw[this];exact Nat.le_refl _
  ·rw[if_neg hc];refine⟨dur,ha,fun h1 h2=>i2 h1 (by omega)⟩
def Ext(w w':Wt):Prop:=w'.clash=false→w.clash=false∧∀h t,Yj w.front h=(t,true)→Yj w'.front h=(t,true)
theorem Ext.refl(w:Wt):Ext w w:=fun h=>⟨h,fun _ _ h=>h⟩
theorem Ext.trans{a b c:Wt}(h:Ext a b)(h':Ext b c):Ext a c:=fun hc=>⟨(h (h' hc).1).1,fun k t ht=>(h' hc).2 k t ((h (h' hc).1).2 k t ht)⟩
theorem aa4(M:SMs)(k v:List UInt8):Yj (YO M k v) k=(v,true):=by
 induction M with
 |nil=>simp[YO,Yj]
 |cons p r ih =>
  unfold YO;split
  ·simp[Yj]
  ·rename_i hne
   unfold Yj at ih ⊢;rw[List.find?_cons_of_neg (by simpa using hne)];exact ih
theorem aw9(M:SMs){k k':List UInt8}(v:List UInt8)(h:k≠k'):Yj (YO M k v) k'=Yj M k':=by
 induction M with
 |nil=>simp[YO,Yj,h]
 |cons p r ih =>
  unfold YO;split
  ·rename_i he
   unfold Yj;rw[List.find?_cons_of_neg (by simpa using h),List.find?_cons_of_neg (by rw[he];simpa using h)]
  ·unfold Yj at ih ⊢;by_cases hp:p.1=k'
   ·rw[List.find?_cons_of_pos (by simpa using hp),List.find?_cons_of_pos (by simpa using hp)]
   ·rw[List.find?_cons_of_neg (by simpa using hp),List.find?_cons_of_neg (by simpa using hp)];exact ih
theorem bk4(w:Wt)(h1 h2 t:List UInt8):Ext w (ae7 w h1 h2 t):=by
 intro hc;have hc:(w.clash||(YG w.front h1 t||YG w.back h2 t))=false:=hc;simp only[Bool.or_eq_false_iff]at hc;refine⟨hc.1,fun k s hk=>?_⟩;show Yj (YO w.front h1 t) k=_;by_cases e:h1=k
 ·subst e;have h3:=hc.2.1;unfold YG at h3;rw[hk]at h3;have:s=t:=by simpa using h3
  rw[aa4,this]
 ·rw[aw9 _ _ e];exact hk
theorem cd3(w:Wt)(h1 h2 t:List UInt8):Yj (ae7 w h1 h2 t).front h1=(t,true):=aa4 _ _ _
theorem bB1(i:Nat)(l:List UInt8)(w:Wt):Ext w (XW i l w):=by
 unfold XW;split
 ·split
  ·exact bk4 _ _ _ _
  ·exact Ext.refl _
 ·split
  ·exact bk4 _ _ _ _
  ·exact Ext.refl _
theorem bk5(i:Nat)(r:Sct×Option Sct)(w:Wt){k m:Nat}(h:k≤m):Ext (XV i r w k) (XV i r w m):=by
 induction m with
 |zero=>rw[Nat.le_zero.1 h];exact Ext.refl _
 |succ m ih =>
  by_cases e:k=m+1
  ·rw[e];exact Ext.refl _
  ·exact(ih (by omega)).trans (bB1 _ _ _)
theorem bk6(D:Dk)(w:Wt){i m:Nat}(h:i≤m):Ext (YP D w i) (YP D w m):=by
 induction m with
 |zero=>rw[Nat.le_zero.1 h];exact Ext.refl _
 |succ m ih =>
  by_cases e:i=m+1
  ·rw[e];exact Ext.refl _
  ·exact(ih (by omega)).trans (bk5 _ _ _ (Nat.zero_le _))
theorem bk7{D:Dk}{w:Wt}{i m k:Nat}(hi:i<m)(h2:2≤i)(hk:k<UI (D.getD i (JS,none)))(hs:Qu 2 (ae9 (D.getD i (JS,none)) k).l 22=true)(hc:(YP D w m).clash=false) :
 Yj (YP D w m).front (Jd (ae9 (D.getD i (JS,none)) k).l 22 30)=(VJ (ae9 (D.getD i (JS,none)) k).l,true):=by
 have h1:=bk6 D w (show i+1≤m from hi) hc;refine h1.2 _ _ ?_;have h3:=bk5 i (D.getD i (JS,none)) (YP D w i) (show k+1≤UI (D.getD i (JS,none))from hk) h1.1;refine h3.2 _ _ ?_;show Yj (XW i _ (XV i _ _ k)).front _=_;unfold XW;rw[if_neg (by omega),if_pos hs];exact cd3 _ _ _ _
theorem bl8{l l':List UInt8}(hl:l.length=128)(hl':l'.length=128)(h:VJ l=VJ l'):(∀i,i<22∨(30≤i∧i<120)→l[i]? = l'[i]?):=by
 have h:([102]++l.take 22)++(l.take 120).drop 30=([102]++l'.take 22)++(l'.take 120).drop 30:=h;have ha:=List.append_inj h (by simp[hl,hl']);have hb:=List.append_inj ha.1 rfl;intro i hi;rcases hi with hi|hi
 ·have:=congrArg (fun x=>x[i]?) hb.2
  simpa [List.getElem?_take,hi] using this
 ·have:=congrArg (fun x=>x[i-30]?) ha.2
  simpa [List.getElem?_drop,List.getElem?_take,show 30+(i-30)=i by omega,hi.2] using this
theorem cd4{f t:List UInt8}(hf:f.length=128)(ht:t.length=128)(hsf:Qu 2 f 22=true)(hst:Qu 2 t 22=true)(h:VJ t=VJ f):t=f:=by
 have hi:=bl8 ht hf h;have hd:JT 2 t 22=JT 2 f 22:=aM9 2 hi;have e1:Wd f 22 (JT 2 f 22)=f:=by
  have:=aA0 hf (Qt 2 f 22) (mark:=22) (by decide);rw[show(decide _&&decide _)=true from hsf]at this;exact of_decide_eq_true this
 have e2:Wd t 22 (JT 2 t 22)=t:=by
  have:=aA0 ht (Qt 2 t 22) (mark:=22) (by decide);rw[show(decide _&&decide _)=true from hst]at this;exact of_decide_eq_true this
 rw[←e1,←e2,hd];refine List.ext_getElem? fun i=>?_;rw[ah9 ht (Qt 2 f 22) (by decide),ah9 hf (Qt 2 f 22) (by decide)];split
 ·rfl
 ·split
  ·rfl
  ·rename_i c1 c2
   by_cases c3:i<128
   ·exact hi i (by omega)
   ·rw[List.getElem?_eq_none (by omega),List.getElem?_eq_none (by omega)]
theorem as1{keep:List Int}{D:Dk}{i:Nat}{r:Sct×Option Sct}(h:D[i]? = some r):∃x:Int,Qi (Yp keep D) i=(match r.2 with|none=>r.1|some q=>Qx r.1 q x).l:=by
 obtain⟨x,hx⟩:=aF6 keep D 0 i r h;refine⟨x, ?_⟩;unfold Qi Yp;rw[List.getD_eq_getElem?_getD,List.getElem?_map,hx];rfl
structure Left (n:Nat) (F:Nat→Sct) (D2:Dk) (cnt dur:Nat):Prop where
 len:D2.length=n
 le:dur≤cnt
 z:Qi D2 0=YN
 b:Qi D2 1=KQ.l
 at_:∀j,j<n-2→(j<dur∧Qi D2 (Xe n j)=(F j).l)∨(j<cnt∧(Qi D2 (Xe n j)=YN∨Qi D2 (Xe n j)=(F j).l∨Qi D2 (Xe n j)=(Yh JS (F j)).l))∨(cnt≤j∧Qi D2 (Xe n j)=YN)
theorem bg1{n:Nat}{F:Nat→Sct}{D:Dk}{cnt dur:Nat}(h:LayI n F D cnt dur)(keep:List Int):Left n F (Yp keep D) cnt dur:=by
 refine⟨by rw[Ko];exact h.len,h.le, ?_, ?_,fun j hj=>?_⟩
 ·obtain⟨x,hx⟩:=as1 (keep:=keep) h.z;exact hx
 ·obtain⟨x,hx⟩:=as1 (keep:=keep) h.b;exact hx
 ·obtain⟨x,hx⟩:=as1 (keep:=keep) (h.at_ j hj);by_cases c1:j<dur
  ·rw[if_pos c1]at hx;exact .inl ⟨c1,hx⟩
  ·rw[if_neg c1]at hx;by_cases c2:j<cnt
   ·rw[if_pos c2]at hx;refine .inr (.inl ⟨c2, ?_⟩);rcases bA8 JS (F j) x with e|e|e
    ·exact .inl (by rw[hx];show(Qx _ _ _).l=_;rw[e];rfl)
    ·exact .inr (.inl (by rw[hx];show(Qx _ _ _).l=_;rw[e]))
    ·exact .inr (.inr (by rw[hx];show(Qx _ _ _).l=_;rw[e]))
   ·rw[if_neg c2]at hx;exact .inr (.inr ⟨by omega,hx⟩)
theorem bw5(d q:Sct){a b:Nat}(h:b≤64):Jd (Yh d q).l a b=Jd q.l a b:=by
 refine List.ext_getElem? fun i=>?_;rw[aW2,aW2];split
 ·show(q.l.take 64++d.l.drop 64)[a+i]? = _;rw[List.getElem?_append_left (by rw[List.length_take,q.h];omega),List.getElem?_take,if_pos (by omega)]
 ·rfl
theorem cK9:(JJ (JW 4 (UInt64.ofNat 2))).toNat=2:=by rw[bG0 4 _ (by decide)];rfl
theorem cp2{n:Nat}{l:List (List UInt8)}{D2:Dk}{cnt dur:Nat}(h:Left n (KW l) D2 cnt dur){j:Nat}(hj:j<n-2)(hs:Qu 2 (Qi D2 (Xe n j)) 22=true):(JJ (Jd (Qi D2 (Xe n j)) 8 12)).toNat=2:=by
 have hz:∀s:List UInt8,s=YN→Qu 2 s 22=true→False:=fun s e h=>by rw[e,UP]at h;cases h
 have hf:(JJ (Jd (KW l j).l 8 12)).toNat=2:=by rw[(bw4 l j).ses,cK9]
 rcases h.at_ j hj with ⟨_,e⟩|⟨_,e|e|e⟩|⟨_,e⟩
 ·rw[e,hf]
 ·exact absurd hs fun h=>hz _ e h
 ·rw[e,hf]
 ·rw[e,bw5 _ _ (by decide),hf]
 ·exact absurd hs fun h=>hz _ e h
theorem bk8{n:Nat}(hn:6≤n){l:List (List UInt8)}{D2:Dk}{cnt dur:Nat}(h:Left n (KW l) D2 cnt dur):∀i,i≤n→2≤i→∃m,m≤2∧YF D2 i=(b0,true,m)
 |0,_,h2=>absurd h2 (by decide)
 |1,_,h2=>absurd h2 (by decide)
 |2,_,_=>by
  refine⟨1,by decide, ?_⟩;show Yc (Qi D2 1) 1 (Yc (Qi D2 0) 0 (YF D2 0))=_;rw[h.z,h.b];have e0:Yc YN 0 (YF D2 0)=YF D2 0:=by
   unfold Yc;rw[if_neg (by decide),Gc];rfl
  rw[e0];simp only[Yc,if_neg (show ¬2≤1 by decide),ah7,bc8,ite_true];rfl
 |i+3,hi,_=>by
  obtain⟨m,hm,e⟩:=bk8 hn h (i+2) (by omega) (by omega);show ∃m,m≤2∧Yc (Qi D2 (i+2)) (i+2) (YF D2 (i+2))=_;rw[e];unfold Yc;rw[if_pos (by omega)];by_cases hs:Qu 2 (Qi D2 (i+2)) 22=true
  ·rw[if_pos hs];obtain⟨j,hj,hji⟩:=aN1 hn (show 2≤i+2 by omega) (show i+2<n by omega);have h2:(JJ (Jd (Qi D2 (i+2)) 8 12)).toNat=2:=by rw[←hji];exact cp2 h hj (by rw[hji];exact hs)
   rw[h2];exact⟨max m 2,by omega,rfl⟩
  ·rw[if_neg hs];exact⟨m,hm,rfl⟩
theorem bQ3{n:Nat}{F:Nat→Sct}{D2:Dk}{cnt dur:Nat}(h:Left n F D2 cnt dur):XU D2 2=1:=by
 simp only[XU,h.z,h.b,Gc];simp[ah7,aM7]
theorem bw6:(JJ (Jd YN 0 8)).toNat=0:=by decide +kernel
theorem bQ4{n:Nat}(hn:6≤n){l:List (List UInt8)}{D:Dk}{cnt dur:Nat}(hD:LayI n (KW l) D cnt dur)(keep:List Int){w w':Wt}(hw:w=YP D w' n)(hc:(YP (Yp keep D) w n).clash=false){j:Nat}(hj:j<n-2) :
 (j<cnt∧Qi (Yp keep D) (Xe n j)=(KW l j).l)∨(dur≤j∧((JJ (Jd (Qi (Yp keep D) (Xe n j)) 0 8)).toNat=0∨Qu 2 (Qi (Yp keep D) (Xe n j)) 22=false)):=by
 have hL:=bg1 hD keep;have hle:=hD.le;have hsl:=aW3 hn hj;rcases Nat.lt_or_ge j dur with hjd|hjd
 ·rcases hL.at_ j hj with ⟨c,e⟩|⟨c,e⟩|⟨c,e⟩
  ·exact .inl ⟨by omega,e⟩
  ·obtain⟨x,hx⟩:=as1 (keep:=keep) (hD.at_ j hj);rw[if_pos hjd]at hx;exact .inl ⟨by omega,hx⟩
  ·omega
 rcases hL.at_ j hj with ⟨c,e⟩|⟨c,e|e|e⟩|⟨c,e⟩
 ·exact .inl ⟨by omega,e⟩
 ·exact .inr ⟨hjd, .inl (by rw[e,bw6])⟩
 ·exact .inl ⟨c,e⟩
 ·cases hs:Qu 2 (Qi (Yp keep D) (Xe n j)) 22 with
  |false=>exact .inr ⟨hjd, .inr rfl⟩
  |true =>
   have hF:=bw4 l j;have hrow:=hD.at_ j hj;rw[if_neg (by omega),if_pos c]at hrow;have hrow':D.getD (Xe n j) (JS,none)=(JS,some (KW l j)):=by rw[List.getD_eq_getElem?_getD,hrow];rfl
   have hx:=bk6 (Yp keep D) w (Nat.zero_le n) hc;have hwc:(YP D w' n).clash=false:=by rw[←hw];exact hx.1
   have h1:=bk7 (D:=D) (w:=w') (i:=Xe n j) (m:=n) (k:=1) hsl.2 hsl.1 (by rw[hrow'];exact(by decide:1<2)) (by rw[hrow'];exact hF.sld) hwc;rw[hrow',←hw]at h1;have h1:Yj w.front (Jd (KW l j).l 22 30)=(VJ (KW l j).l,true):=h1;have h2:=hx.2 _ _ h1;obtain⟨r,hr⟩:∃r,(Yp keep D)[Xe n j]? = some r:=by
    have:Xe n j<(Yp keep D).length:=by rw[hL.len];exact hsl.2
    exact⟨_,List.getElem?_eq_getElem this⟩
   have hr2:r.2=none:=by
    unfold Yp at hr;rw[List.getElem?_map]at hr;cases hq:(Vb keep 0 D)[Xe n j]? with
    |none=>rw[hq]at hr;cases hr
    |some s=>rw[hq]at hr;cases hr;rfl
   have hr1:(Yp keep D).getD (Xe n j) (JS,none)=r:=by rw[List.getD_eq_getElem?_getD,hr];rfl
   have hat:Qi (Yp keep D) (Xe n j)=r.1.l:=by
    unfold Qi;rw[hr1];unfold XE;rw[hr2];rfl
   have h3:=bk7 (D:=Yp keep D) (w:=w) (i:=Xe n j) (m:=n) (k:=0) hsl.2 hsl.1 (by rw[hr1];unfold UI;rw[hr2];decide) (by rw[hr1];show Qu 2 r.1.l 22=true;rw[←hat];exact hs) hc;rw[hr1]at h3;have h3:Yj (YP (Yp keep D) w n).front (Jd r.1.l 22 30)=(VJ r.1.l,true):=h3;rw[←hat,e,bw5 _ _ (by decide),h2]at h3;have h4:VJ (KW l j).l=VJ (Yh JS (KW l j)).l:=(Prod.mk.inj h3).1;rw[e]at hs;exact .inl ⟨c,by rw[e];exact cd4 hF.len (Yh JS (KW l j)).h hF.sld hs h4.symm⟩
 ·exact .inr ⟨by omega, .inl (by rw[e,bw6])⟩
theorem bQ5(k m:Nat):decide (Vi k m&&&1=1)=decide (k=0):=by
 unfold Vi;by_cases h1:k=0
 ·by_cases h2:k+1=m
  ·rw[if_pos h1,if_pos h2,decide_eq_true h1];decide
  ·rw[if_pos h1,if_neg h2,decide_eq_true h1];decide
 ·by_cases h2:k+1=m
  ·rw[if_neg h1,if_pos h2,decide_eq_false h1];decide
  ·rw[if_neg h1,if_neg h2,decide_eq_false h1];decide
theorem cp3(k m:Nat):Vi k m&&&2=0↔¬k+1=m:=by
 unfold Vi;by_cases h1:k=0
 ·by_cases h2:k+1=m
  ·rw[if_pos h1,if_pos h2];exact⟨fun h=>absurd h (by decide),fun h=>absurd h2 h⟩
  ·rw[if_pos h1,if_neg h2];exact⟨fun _=>h2,fun _=>by decide⟩
 ·by_cases h2:k+1=m
  ·rw[if_neg h1,if_pos h2];exact⟨fun h=>absurd h (by decide),fun h=>absurd h2 h⟩
  ·rw[if_neg h1,if_neg h2];exact⟨fun _=>h2,fun _=>by decide⟩
theorem cA6(k m:Nat):¬3<(Vi k m).toNat:=by
 unfold Vi;by_cases h1:k=0
 ·by_cases h2:k+1=m
  ·rw[if_pos h1,if_pos h2];decide
  ·rw[if_pos h1,if_neg h2];decide
 ·by_cases h2:k+1=m
  ·rw[if_neg h1,if_pos h2];decide
  ·rw[if_neg h1,if_neg h2];decide
theorem bQ6{s:List UInt8}{k:Nat}(h:k<Qe s):s.take (k*90)++Qa s k=if k+1=Qe s then s else s.take ((k+1)*90):=by
 have hc:=aV9 h;have e:s.take (k*90)=(s.take (min s.length ((k+1)*90))).take (k*90):=by rw[List.take_take,Nat.min_eq_left hc]
 unfold Qa;rw[e,List.take_append_drop];split
 ·rename_i he
  rw[Nat.min_eq_left (by unfold Qe at he;omega),List.take_of_length_le (Nat.le_refl _)]
 ·rename_i he
  rw[Nat.min_eq_right (by unfold Qe at he h;omega)]
structure StI (l:List (List UInt8)) (i k:Nat) (g:Fo):Prop where
 q:g.q=Yr l i+k+1
 link:g.link=lkF l (Yr l i+k)
 ins:g.ins=decide (0<k)
 text:0<k→g.text=(l.getD i []).take (k*90)
 recs:g.recs.map (·.text)=l.take i
theorem bQ7{n:Nat}(hn:6≤n∧n≤65536){l:List (List UInt8)}(hl:Yr l l.length≤n-2){D2:Dk}{dur C:Nat}(hC:C≤l.length)(hdur:Yr l C≤dur)
 (hD:∀j,j<n-2→(j<Yr l l.length∧Qi D2 (Xe n j)=(KW l j).l)∨(dur≤j∧((JJ (Jd (Qi D2 (Xe n j)) 0 8)).toNat=0∨Qu 2 (Qi D2 (Xe n j)) 22=false))) :
 ∀(f i k:Nat) (g:Fo),f+(Yr l i+k)=n-2→i≤l.length→(∀h:i<l.length,k<Qe l[i])→(i=l.length→k=0)→StI l i k g →
  ∃r,C≤r∧r≤l.length∧(Kq D2 n f g).recs.map (·.text)=l.take r:=by
 intro f
 induction f with
 |zero =>
  intro i k g hf hi hk hk0 hg;refine⟨i, ?_,hi,hg.recs⟩;by_cases h:i<l.length
  ·have h1:=hk h;have h2:=av0 l (show i+1≤l.length by omega);rw[ac4 h]at h2;omega
  ·omega
 |succ f ih =>
  intro i k g hf hi hk hk0 hg;have hj:Yr l i+k<n-2:=by omega
  have hsl:2+g.q%(n-2)=Xe n (Yr l i+k):=by rw[hg.q];rfl
  show ∃r,C≤r∧r≤l.length∧(if WD (Qi D2 (2+g.q%(n-2))) g then g else Kq D2 n f (Wz (Qi D2 (2+g.q%(n-2))) g)).recs.map (·.text)=l.take r;rw[hsl];rcases hD _ hj with ⟨c,e⟩|⟨c,e⟩
  ·have hlt:i<l.length:=by
    refine Nat.lt_of_not_le fun hge=>?_;have e1:i=l.length:=by omega
    rw[e1]at c;omega
   have hkl:=hk hlt;have hp:=aF8 l i k hlt hkl;have hF:=bw4 l (Yr l i+k);rw[hp]at hF;have hlk:lkF l (Yr l i+k+1)=Jd (KW l (Yr l i+k)).l 22 30:=rfl;rw[e];generalize (KW l (Yr l i+k)).l=s at hF hlk;have hs2:=ac4 hlt;have hcl:=Wj l[i] k;have h13:(Jj s 13).toNat=(Qa l[i] k).length:=by
    rw[hF.cnt,UInt8.toNat_ofNat_of_lt' (by show(Qa l[i] k).length<256;omega)]
   have h0:(JJ (Jd s 0 8)).toNat=g.q:=by
    rw[hF.num,bG0 8 _ (by decide),hg.q,UInt64.toNat_ofNat_of_lt' (by show Yr l i+k+1<18446744073709551616;omega)];omega
   have hbad:WD s g=false:=by
    unfold WD;rw[decide_eq_true h0,decide_eq_true (hF.lnk.trans hg.link.symm),hF.sld,h13,hF.flg,decide_eq_false (by omega),decide_eq_false (cA6 k _),bQ5,hg.ins];by_cases h:k=0
    ·subst h;rfl
    ·rw[decide_eq_true (by omega),decide_eq_false h];rfl
   rw[if_neg (by rw[hbad];decide)];have hT:(if g.ins then g.text else [])++Jd s 30 (30+(Jj s 13).toNat)=if k+1=Qe l[i]then l[i]else l[i].take ((k+1)*90):=by
    rw[h13,hF.txt,←bQ6 hkl,hg.ins];congr 1;by_cases h:0<k
    ·rw[decide_eq_true h,if_pos rfl,hg.text h,List.getD_eq_getElem?_getD,List.getElem?_eq_getElem hlt];rfl
    ·rw[decide_eq_false h];have:k=0:=by omega
     subst this;simp
   have hend:=cp3 k (Qe l[i]);have hx:Wz s g=⟨g.q+1,Jd s 22 30,if k+1=Qe l[i]then l[i]else l[i].take ((k+1)*90),decide (Jj s 12&&&2=0),if Jj s 12&&&2=0 then g.recs else g.recs++[⟨if k+1=Qe l[i]then l[i]else l[i].take ((k+1)*90),g.q+1,Jd s 22 30⟩]⟩:=by
    unfold Wz;rw[hT]
   rw[hx,hF.flg,←hlk];by_cases hE:k+1=Qe l[i]
   ·rw[if_pos hE,decide_eq_false (fun h=>hend.1 h hE),if_neg (fun h=>hend.1 h hE)];refine ih (i+1) 0 _ (by omega) (by omega) (fun h=>by unfold Qe;omega) (fun _=>rfl) ⟨?_, ?_,rfl,fun h=>absurd h (by decide), ?_⟩
    ·show g.q+1=_;rw[hg.q];omega
    ·show lkF l _=_;rw[hs2,←hE,Nat.add_zero,←Nat.add_assoc]
    ·show(g.recs++[_]).map _=_;rw[List.map_append,hg.recs,JR hlt];rfl
   ·rw[if_neg hE,decide_eq_true (hend.2 hE),if_pos (hend.2 hE)];refine ih i (k+1) _ (by omega) hi (fun h=>by omega) (fun h=>by omega) ⟨?_, ?_, ?_,fun _=>?_,hg.recs⟩
    ·show g.q+1=_;rw[hg.q];omega
    ·show lkF l _=_;rw[Nat.add_assoc]
    ·exact(decide_eq_true (by omega)).symm
    ·show List.take _ _=_;rw[List.getD_eq_getElem?_getD,List.getElem?_eq_getElem hlt];rfl
  ·have hbad:WD (Qi D2 (Xe n (Yr l i+k))) g=true:=by
    unfold WD;rcases e with e|e
    ·rw[e,hg.q,decide_eq_false (by omega)];rfl
    ·rw[e];simp
   rw[if_pos hbad];refine⟨i, ?_,hi,hg.recs⟩;refine Nat.le_of_not_lt fun hlt=>?_;have h1:=hk (by omega);have h2:=av0 l (show i+1≤C by omega);rw[ac4 (by omega:i<l.length)]at h2;omega
theorem cp4{n:Nat}(hn:6≤n∧n≤65536){l:List (List UInt8)}(hl:Yr l l.length≤n-2)(committed:Int)(keep:List Int)
 (hc:(YP (Yp keep (Kf n committed l l.length).D) (Kf n committed l l.length).w n).clash=false) :
 ∃r,r≤l.length∧(1≤committed→committed≤l.length→committed≤r)∧(GL (Yp keep (Kf n committed l l.length).D) b0).map (·.text)=l.take r:=by
 obtain⟨dur,hK,hd⟩:=bd1 hn.1 hl committed l.length (Nat.le_refl _);obtain⟨w',hw⟩:=hK.w;have hlen:(Yp keep (Kf n committed l l.length).D).length=n:=by rw[Ko,hK.lay.len]
 have hclean:∀j,j<n-2→_:=fun j hj=>bQ4 hn.1 hK.lay keep hw hc hj;generalize Yp keep (Kf n committed l l.length).D=D2 at hclean hlen;obtain⟨C,hC,hCd,hCc⟩:∃C,C≤l.length∧Yr l C≤dur∧(1≤committed→committed≤l.length→committed≤C):=by
  by_cases h:1≤committed∧committed≤l.length
  ·exact⟨committed.toNat,by omega,hd h.1 h.2,fun _ _=>by omega⟩
  ·exact⟨0,Nat.zero_le _,Nat.zero_le _,fun h1 h2=>absurd ⟨h1,h2⟩ h⟩
 obtain⟨r,h1,h2,h3⟩:=bQ7 hn hl hC hCd hclean (n-2) 0 0 ⟨1,Ke,[],false,[]⟩ (by rw[aN0];omega) (Nat.zero_le _) (fun h=>by unfold Qe;omega) (fun _=>rfl) ⟨rfl,rfl,rfl,fun h=>absurd h (by decide),rfl⟩;refine⟨r,h2,fun a b=>by have:=hCc a b;omega, ?_⟩;unfold GL;rw[hlen,bw3];exact h3
end Go.Proofs
