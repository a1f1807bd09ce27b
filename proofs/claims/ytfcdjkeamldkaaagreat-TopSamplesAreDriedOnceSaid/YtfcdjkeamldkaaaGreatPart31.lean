/-
  A part of the proof that a law answers true: lemmas of a symbolic walk, plain functions, or contracts of the functions walked (QB, QC). Conditions: none.
-/
import Derived.Test.YtfcdjkeamldkaaaGreatPart30
set_option maxRecDepth 100000
set_option linter.unusedVariables false
set_option linter.unusedSimpArgs false
namespace Go.Proofs
open Go.Sx
theorem cc3(n:Nat)(hn:6≤n∧n≤65536)(hs:YF (Qp n) n=Sv0)(hg:XU (Qp n) 2=0) :
 Triple Tryz.prog 74 [.c (.p 0 0 0 0),iv .i64 0,iv .i64 n] [(0,true,YE 1 (Qp n).length),(1,true,Vc 2 (Qp n)),(2,true,Vv (Qp n))] 3 (iv .i64 0)
  [(0,true,YE 1 (Qp n).length),(1,true,Vc 3 (Wg n)),(3,true,Vv (Wg n))]:=by
 have hl:=Ka n;have hln:(n:Int)=((Qp n).length:Int):=by rw[hl]
 have hnd:6≤(Qp n).length∧(Qp n).length≤65536:=by omega
 have hs':(YF (Qp n) (Qp n).length).2.2=0:=by rw[hl,hs];rfl
 have hg1:1<(Qp n).length:=by omega
 have hnone:(Qp n)[1].2=none:=by simp[Qp]
 have hgr:=aS5 (Qp n) hnd;rw[hg]at hgr;unfold Wg;generalize hD:Qp n=D at hl hln hnd hs' hg1 hnone hgr ⊢;rw[hln];refine Jc Ja Tryz.func74 rfl Tryz.call74 rfl ?_;intro ρ w hH;conv=>whnf
 refine Jb (bF6 D hnd) rfl rfl ?_;conv=>whnf
 refine Qs ?_;conv=>whnf
 refine nF fun hc=>?_;conv=>whnf
 refine Jb (bF7 D hnd 0 hs' (by decide)) rfl rfl ?_;conv=>whnf
 refine Qs ?_;conv=>whnf
 refine Jb hgr rfl rfl ?_;conv=>whnf
 refine Qs ?_;conv=>whnf
 refine⟨fun hc=>absurd hc (by decide),fun hc=>?_⟩;conv=>whnf
 refine⟨fun hc=>absurd hc (by decide),fun hc=>?_⟩;conv=>whnf
 refine⟨(1:Int),rfl, ?_⟩;conv=>whnf
 refine Jb (aM5 1 (by decide)) rfl rfl ?_;conv=>whnf
 refine cs ?_;conv=>whnf
 refine Jb (aM5 1 (by decide)) rfl rfl ?_;conv=>whnf
 refine cs ?_;conv=>whnf
 refine Yf Ja (Va [JH 1,JH 1]) rfl rfl ?_;conv=>whnf
 refine⟨⟨rfl,cl⟩, ?_⟩;conv=>whnf
 have hil:=Qz 1;refine Jb (bv9 3 (by decide) [JH 1,JH 1] (cb5 (by omega) (by omega))) rfl rfl ?_;conv=>whnf
 refine cs ?_;have hd:=XL 3 [JH 1,JH 1];have hlk:(Xv 3 [JH 1,JH 1]).take 8=Ke:=rfl;generalize Xv 3 [JH 1,JH 1]=L at hd hlk ⊢;conv=>whnf
 refine Jv Ja 16 rfl rfl rfl ?_;conv=>whnf
 refine Jp (l':=L) Ja rfl rfl rfl rfl rfl (by simp) (by rw[hd];simp) (by decide) ?_;conv=>whnf
 refine⟨by decide,(1:Int),by decide, ?_⟩;conv=>whnf
 refine⟨(1:Int),by decide, ?_⟩;conv=>whnf
 refine Jk (n:=16) (l:=L) Ja rfl rfl rfl rfl rfl rfl ⟨8,rfl,by decide,0,rfl,by decide, ?_⟩;conv=>whnf
 refine Ju (fx:=some 16) (l:=L) Ja rfl rfl rfl rfl rfl rfl (by rw[Jt];omega) ?_;rw[show(L.drop 0).take (JV 8 0)=Ke from hlk];conv=>whnf
 have hbt:=cA2 1 1 1 0 (by decide) Ke al1;rw[show ab4 ⟨UInt64.ofNat 1,UInt64.ofNat 1,UInt64.ofNat 0,UInt64.ofNat 1,Ke⟩=KQ.l from rfl]at hbt;refine Jb hbt rfl rfl ?_;generalize KQ=q;conv=>whnf
 refine cs ?_;conv=>whnf
 refine Jb (ar8 D 1 hg1 hnone q) rfl rfl ?_;conv=>whnf
 refine Qs ?_;conv=>whnf
 rw[←JI rfl];refine nF fun hc=>?_;conv=>whnf
 have hsl:(YY D 1 q).length=D.length:=GC _ _ _;rw[←hsl];refine Jb (bF3 (YY D 1 q) (by omega)) rfl rfl ?_;conv=>whnf
 refine Qs ?_;conv=>whnf
 rw[←JI rfl];exact JE
structure Xl where
 gen:Nat
 sess:Nat
 first:Nat
 gone:Nat
 link:List UInt8
structure Xk where
 text:List UInt8
 fr:Nat
 link:List UInt8
def aXk(xs:List Xk):Arr:=⟨Xk,3,fun x=>[WI x.text, .v (.int .i64 x.fr),WI x.link],[],fun _=>rfl,(by intro x c hc k hk;simp at hc;rcases hc with rfl|rfl|rfl <;> cases hk),xs,none,none⟩
abbrev xlC(n:Nat)(x:Xl)(kr m:Nat):List SC:=[.p 0 0 0 0, .v (.int .i64 0), .v (.int .i64 n), .v (.int .i64 x.gen), .v (.int .i64 x.sess), .v (.int .i64 x.first), .v (.int .i64 x.gone),WI x.link, .s kr 0 m 3]
abbrev xlH(own:Bool)(n:Nat)(D:Dk)(x:Xl)(ks:List Xk):Je :=
 [(3,own, .cells (xlC n x 4 ks.length)),(0,own,YE 1 n),(1,own,Vc 2 D),(2,own,Vv D),(4,own, .arr (aXk ks))]
theorem bF8(D:Dk)(n:Nat)(hn:6≤n∧n≤65536)(x:Xl)(ks:List Xk)(q:Nat)(hq:q≤4611686018427387905):Triple Tryz.prog 138 [.c (.p 3 0 0 0),iv .i64 q] (xlH false n D x ks) 5 (iv .i64 ((2+q%(n-2):Nat):Int)) []:=by
 refine Jc Ja Tryz.func138 rfl Tryz.call138 rfl ?_;intro ρ w hH;conv=>whnf
 refine⟨((n-2:Nat):Int),by rw[show(n:Int)-2=((n-2:Nat):Int)from by omega];exact wO, ?_⟩;conv=>whnf
 have hm:=Nat.mod_lt q (show 0<n-2 by omega);refine⟨by omega,((q%(n-2):Nat):Int),by rw[show(q:Int).tmod ((n-2:Nat):Int)=((q%(n-2):Nat):Int)from(Int.ofNat_tmod q (n-2)).symm];try exact wO, ?_⟩;conv=>whnf
 refine⟨((2+q%(n-2):Nat):Int),by rw[show(2:Int)+((q%(n-2):Nat):Int)=((2+q%(n-2):Nat):Int)from by omega];exact wO, ?_⟩;conv=>whnf
 exact JE
theorem cc4(D:Dk)(hd:D.length≤65536)(x:Xl)(ks:List Xk) :
 Triple Tryz.prog 82 [.c (.p 3 0 0 0)] (xlH true D.length D x ks) 5 (iv .i64 0) (xlH true D.length (YD D) x ks):=by
 refine Jc Ja Tryz.func82 rfl Tryz.call82 rfl ?_;intro ρ w hH;conv=>whnf
 refine Jb (bF3 D (by omega)) rfl rfl ?_;conv=>whnf
 refine Qs ?_;conv=>whnf
 rw[←JI rfl];exact JE
def Xd(ks:List Xk)(i:Nat):Nat:=((ks.take i).map (·.fr)).foldl (·+·) 0
theorem aM6(ks:List Xk){i:Nat}(h:i<ks.length):Xd ks (i+1)=Xd ks i+ks[i].fr:=by
 unfold Xd;rw[JR h,List.map_append,List.foldl_append];rfl
theorem cs9{ks:List Xk}{i:Nat}(h:i<ks.length):∀hz,(aXk ks).xs[JO 0 i]'hz=ks[i]:=fun hz=>by
 have e:JO 0 i=i:=by rw[Qc];omega
 show ks[JO 0 i]'hz=ks[i];congr 1
theorem bk3(D:Dk)(n:Nat)(x:Xl)(ks:List Xk)(hb:∀i,i≤ks.length→Xd ks i≤1000000)(hk:ks.length≤100000):Triple Tryz.prog 135 [.c (.p 3 0 0 0),iv .i64 ks.length] (xlH false n D x ks) 5 (iv .i64 (Xd ks ks.length)) []:=by
 refine Jc Ja Tryz.func135 rfl Tryz.call135 rfl ?_;intro ρ w hH;conv=>whnf
 refine Jz Ja (G:=Nat) 0 [] (fun i=>[(6,iv .i64 i),(5,iv .i64 (Xd ks i))]) (fun _=>[]) (fun i=>i≤ks.length) (fun i=>ks.length-i) ?_;conv=>whnf
 refine⟨⟨0,Nat.zero_le _, ?_⟩, ?_⟩
 ·conv=>whnf
  exact JE
 intro i hi ρ1 t1 hρ1;have hi:i≤ks.length:=hi;conv=>whnf
 refine⟨fun hc=>?_,fun hc=>?_⟩
 ·have h:i<ks.length:=by have:=of_decide_eq_true hc;omega
  have hst:=aM6 ks h;have hb1:=hb (i+1) h;rw[hst]at hb1;have hx:=cs9 h;generalize Xd ks i=f at hst hb1 ⊢;conv=>whnf
  refine⟨i,rfl,h, ?_⟩;conv=>whnf
  refine⟨by show JO 0 i<ks.length;rw[Qc];omega, ?_⟩;rw[hx];conv=>whnf
  refine⟨((f+ks[i].fr:Nat):Int),by show IntKind.i64.wrap ((f:Int)+(ks[i].fr:Int))=_;rw[show(f:Int)+(ks[i].fr:Int)=((f+ks[i].fr:Nat):Int)from by omega];exact wO, ?_⟩;conv=>whnf
  refine⟨_,wO, ?_⟩;refine⟨i+1,h,by show ks.length-(i+1)<ks.length-i;omega, ?_⟩;dsimp only;rw[hst];conv=>whnf
  refine⟨rfl, ?_⟩;conv=>whnf
  exact JE
 ·have hie:i=ks.length:=by have:=of_decide_eq_false hc;omega
  subst hie;conv=>whnf
  exact JE
theorem cA3(D:Dk)(n:Nat)(hn:6≤n∧n≤65536)(x:Xl)(ks:List Xk)(hb:∀i,i≤ks.length→Xd ks i≤1000000)(hk:ks.length≤100000):Triple Tryz.prog 134 [.c (.p 3 0 0 0)] (xlH false n D x ks) 5 (iv .i64 ((n:Int)-2-(Xd ks ks.length:Nat))) []:=by
 have hb1:=hb ks.length (Nat.le_refl _);refine Jc Ja Tryz.func134 rfl Tryz.call134 rfl ?_;intro ρ w hH;conv=>whnf
 refine⟨(n:Int)-2,wO, ?_⟩;conv=>whnf
 refine Jb (bk3 D n x ks hb hk) rfl rfl ?_;conv=>whnf
 refine Qs ?_;conv=>whnf
 refine⟨(n:Int)-2-(Xd ks ks.length:Nat),wO, ?_⟩;conv=>whnf
 exact JE
def ar9(x:Xl)(ks:List Xk):List UInt8:=match ks.getLast? with
 |none=>x.link
 |some k=>k.link
theorem cA4(D:Dk)(n:Nat)(x:Xl)(ks:List Xk)(hk:ks.length≤100000):Triple Tryz.prog 136 [.c (.p 3 0 0 0),iv .i64 ks.length] (xlH false n D x ks) 5 (YC (ar9 x ks)) []:=by
 rcases List.eq_nil_or_concat ks with h0|⟨ks',k,h0⟩
 ·subst h0;refine Jc Ja Tryz.func136 rfl Tryz.call136 rfl ?_;intro ρ w hH;conv=>whnf
  refine nT fun hc=>?_;conv=>whnf
  exact JE
 ·have hks:ks=ks'++[k]:=by rw[h0];simp
  have hlen:ks.length=ks'.length+1:=by rw[hks];simp
  have hend:ar9 x ks=k.link:=by rw[hks];simp[ar9]
  have hget:∀h,ks[ks'.length]'h=k:=fun h=>by subst hks;simp
  have hne:((ks.length:Int)==0)=false:=beq_false_of_ne (by omega);rw[hend];refine Jc Ja Tryz.func136 rfl Tryz.call136 rfl ?_;intro ρ w hH;conv=>whnf
  have hx:∀hz,(aXk ks).xs[JO 0 ks'.length]'hz=k:=fun hz=>(cs9 (show ks'.length<ks.length by omega) hz).trans (hget _);refine⟨fun hc=>absurd (show((ks.length:Int)==0)=true from hc) (by rw[hne];decide),fun hc=>?_⟩;conv=>whnf
  refine⟨(ks'.length:Int),by rw[show(ks.length:Int)-1=(ks'.length:Int)from by omega];exact wO, ?_⟩;conv=>whnf
  refine⟨ks'.length,rfl,by omega, ?_⟩;conv=>whnf
  refine⟨by show JO 0 ks'.length<ks.length;rw[Qc];omega, ?_⟩;rw[hx];conv=>whnf
  exact JE
theorem cc5(D:Dk)(hd:6≤D.length∧D.length≤65536)(x:Xl)(hss:x.sess≤4611686018427387904)(ks:List Xk)(hk:ks.length≤100000)(hbf:∀i,i≤ks.length→Xd ks i≤1000000)(q:Nat)(link:List UInt8)(hq:x.first+Xd ks ks.length=q)(he:ar9 x ks=link)(hlk:link.length=8)
 (hqb:q≤1000000) (s:List UInt8) (hsl:s.length≤6000) (hroom:Xd ks ks.length+Qe s≤D.length-2) (hfree:UH D D.length q (Qe s)) :
 Triple Tryz.prog 77 [.c (.p 3 0 0 0),YC s] (xlH true D.length D x ks) 5 (iv .i64 0)
  [(0,true,YE 1 D.length),(1,true,Vc 5 (WA D.length x.sess s ⟨D,q,link⟩ (Qe s)).D),(5,true,Vv (WA D.length x.sess s ⟨D,q,link⟩ (Qe s)).D),
   (3,true, .cells (xlC D.length x 6 (ks.length+1))),(6,true, .arr (aXk (ks++[⟨s,Qe s,(WA D.length x.sess s ⟨D,q,link⟩ (Qe s)).link⟩])))]:=by
 have hfr:=bk3 D D.length x ks hbf hk;have hrm:=cA3 D D.length hd x ks hbf hk;have hlt:=cA4 D D.length x ks hk;rw[he]at hlt;have hn1:1≤Qe s:=by unfold Qe;omega
 have hnS:Qe s≤67:=by unfold Qe;omega
 have hI:=bc3 (sess:=x.sess) (s:=s) (a:=⟨D,q,link⟩) (q0:=q) (m:=Qe s) (n:=D.length) ⟨rfl,rfl,hlk,hfree⟩ (by omega);generalize Xd ks ks.length=F at hfr hrm hq hroom;refine Jc Ja Tryz.func77 rfl Tryz.call77 rfl ?_;intro ρ w hH;conv=>whnf
 refine⟨fun hc=>?_,fun hc=>?_⟩
 ·have hc:decide ((6000:Int)<(s.length:Int))=true:=hc;exact absurd (of_decide_eq_true hc) (by omega)
 conv=>whnf
 refine⟨((s.length+89:Nat):Int),by show IntKind.i64.wrap ((s.length:Int)+89)=_;rw[show(s.length:Int)+89=((s.length+89:Nat):Int)from by omega];exact wO, ?_⟩;conv=>whnf
 refine⟨by decide,(((s.length+89)/90:Nat):Int),by rw[show((s.length+89:Nat):Int).tdiv 90=(((s.length+89)/90:Nat):Int)from(Int.ofNat_tdiv (s.length+89) 90).symm];exact wO, ?_⟩;conv=>whnf
 have hmx:max (1:Int) (((s.length+89)/90:Nat):Int)=((Qe s:Nat):Int):=by unfold Qe;omega
 rw[hmx];generalize hm:Qe s=m at hroom hfree hn1 hnS hI ⊢;conv=>whnf
 refine Jb hrm rfl rfl ?_;conv=>whnf
 refine Qs ?_;conv=>whnf
 refine⟨fun hc=>?_,fun hc=>?_⟩
 ·exact absurd (of_decide_eq_true hc) (by omega)
 conv=>whnf
 refine Jb hfr rfl rfl ?_;conv=>whnf
 refine Qs ?_;conv=>whnf
 refine⟨(q:Int),by rw[show(x.first:Int)+(F:Int)=(q:Int)from by omega];exact wO, ?_⟩;conv=>whnf
 refine⟨4611686018427387904-(m:Int),wO, ?_⟩;conv=>whnf
 refine⟨4611686018427387904-(m:Int)+1,wO, ?_⟩;conv=>whnf
 refine⟨fun hc=>?_,fun hc=>?_⟩
 ·exact absurd (of_decide_eq_true hc) (by omega)
 conv=>whnf
 refine Jb hlt rfl rfl ?_;conv=>whnf
 refine Qs ?_;conv=>whnf
 refine Jz Ja (G:=Nat×Ap) 1 [2] (fun g=>[(8,iv .i64 g.1),(7,YC g.2.link)]) (fun g=>[(0,true,YE 1 D.length),(1,true,Vc 5 g.2.D),(5,true,Vv g.2.D)]) (fun g=>g.1≤m∧g.2=WA D.length x.sess s ⟨D,q,link⟩ g.1) (fun g=>m-g.1) ?_;conv=>whnf
 refine⟨⟨(0,⟨D,q,link⟩),⟨Nat.zero_le _,rfl⟩, ?_⟩, ?_⟩
 ·conv=>whnf
  exact JE
 rintro ⟨k,a⟩ ⟨hkm,ha⟩ ρ1 t1 hρ1
 have hkm:k≤m:=hkm;have ha:a=WA D.length x.sess s ⟨D,q,link⟩ k:=ha;conv=>whnf
 refine⟨fun hc=>?_,fun hc=>?_⟩
 rotate_left
 ·have hke:k=m:=by have:=of_decide_eq_false hc;omega
  subst hke;rw[←ha];conv=>whnf
  refine Yf Ja (aXk [⟨s,k,a.link⟩]) rfl rfl ?_;conv=>whnf
  refine⟨⟨rfl,cl⟩, ?_⟩;generalize hr:(⟨s,k,a.link⟩:Xk)=r;conv=>whnf
  refine VG Ja (aXk ks) [r] (ks++[r]) (fun _=>rfl) rfl rfl rfl rfl ?_;conv=>whnf
  refine⟨⟨rfl,rfl,Nat.le_refl _,Nat.le_refl _,by show(ks.length+1)*41≤140737488355328;omega,ab0⟩, ?_⟩;have e3:(ks++[r]).length=ks.length+1:=by rw[List.length_append];rfl
  conv=>whnf
  repeat' (first|exact JI rfl|exact e3|exact trivial|exact rfl|refine And.intro ?_ ?_|((conv=>whnf);first|exact JI rfl|exact e3|exact trivial|exact rfl|refine And.intro ?_ ?_|omega))
 have h:k<m:=by have:=of_decide_eq_true hc;omega
 have hAI:=hI k hkm;rw[←ha]at hAI;obtain⟨hal,haq,hak,haf⟩:=hAI;have hst:WA D.length x.sess s ⟨D,q,link⟩ (k+1)=XT D.length x.sess s k a:=by rw[ha];rfl
 have hml:=Nat.mod_lt a.q (show 0<D.length-2 by omega);have hcl:=aV9 (s:=s) (k:=k) (by omega)
 have hnone:(a.D[2+a.q%(D.length-2)]'(by rw[hal];omega)).2=none:=by
  refine haf 0 (by omega) _ ?_;rw[←haq];exact List.getElem?_eq_getElem _
 have hslt:Triple Tryz.prog 138 [.c (.p 3 0 0 0),iv .i64 ((q+k:Nat):Int)] (xlH false D.length a.D x ks) 5 (iv .i64 ((2+a.q%(D.length-2):Nat):Int)) []:=by
  rw[haq];exact bF8 a.D D.length hd x ks (q+k) (by omega)
 conv=>whnf
 by_cases h0:k=0
 ·have hk0:((k:Int)==0)=true:=by rw[h0];rfl
  refine⟨fun hc=>?_,fun hc=>absurd (show((k:Int)==0)=false from hc) (by rw[hk0];decide)⟩;conv=>whnf
  refine⟨((0|||1:UInt8).toNat:Int),by decide, ?_⟩;conv=>whnf
  refine⟨(m:Int)-1,wO, ?_⟩;conv=>whnf
  by_cases h1:k+1=m
  ·have hk1:((k:Int)==(m:Int)-1)=true:=by simp;omega
   refine⟨fun hc=>?_,fun hc=>absurd (show((k:Int)==(m:Int)-1)=false from hc) (by rw[hk1];decide)⟩;conv=>whnf
   refine⟨(((0|||1)|||2:UInt8).toNat:Int),by decide, ?_⟩;conv=>whnf
   have hfl:Vi k (Qe s)=((0|||1)|||2:UInt8):=by rw[hm];simp only[Vi,if_pos h0,if_pos h1]
   refine⟨((q+k:Nat):Int),by dsimp only;rw[show(q:Int)+(k:Int)=((q+k:Nat):Int)from by omega];exact wO, ?_⟩;conv=>whnf
   refine⟨((k*90:Nat):Int),by dsimp only;rw[show 90*(k:Int)=((k*90:Nat):Int)from by omega];exact wO, ?_⟩;conv=>whnf
   refine⟨((k*90:Nat):Int),by dsimp only;rw[show 90*(k:Int)=((k*90:Nat):Int)from by omega];exact wO, ?_⟩;conv=>whnf
   refine⟨(((k+1)*90:Nat):Int),by rw[show((k*90:Nat):Int)+90=(((k+1)*90:Nat):Int)from by omega];exact wO, ?_⟩;conv=>whnf
   refine Gb (l:=s) Ja rfl rfl rfl ⟨min s.length ((k+1)*90),by show min (s.length:Int) _=_;omega,by omega,k*90,rfl,hcl, ?_⟩;rw[show(s.take (min s.length ((k+1)*90))).drop (k*90)=Qa s k from rfl];conv=>whnf
   refine Jb (aF2 (q+k) x.sess (by omega) ((0|||1)|||2:UInt8) a.link (Qa s k) hak (Wj s k)) rfl rfl ?_;have hst':XT D.length x.sess s k a=⟨YY a.D (2+a.q%(D.length-2)) (YA (q+k) x.sess ((0|||1)|||2:UInt8) a.link (Qa s k)),a.q+1,Jd (YA (q+k) x.sess ((0|||1)|||2:UInt8) a.link (Qa s k)).l 22 30⟩:=by simp only[XT,hfl,haq]
   rw[hst']at hst;generalize YA (q+k) x.sess ((0|||1)|||2:UInt8) a.link (Qa s k)=y at hst ⊢;have hwt:=ar8 a.D (2+a.q%(D.length-2)) (by rw[hal];omega) hnone y;rw[hal]at hwt;conv=>whnf
   refine cs ?_;conv=>whnf
   refine Jv Ja 128 rfl rfl rfl ?_;conv=>whnf
   refine Jp (l':=y.l) Ja rfl rfl rfl rfl rfl (by simp) (by rw[y.h];simp) (by decide) ?_;conv=>whnf
   refine⟨((q+k:Nat):Int),by dsimp only;rw[show(q:Int)+(k:Int)=((q+k:Nat):Int)from by omega];exact wO, ?_⟩;conv=>whnf
   refine Jb hslt rfl rfl ?_;conv=>whnf
   refine Qs ?_;conv=>whnf
   refine⟨((2+a.q%(D.length-2):Nat):Int),by rw[Int.zero_add];exact wO, ?_⟩;conv=>whnf
   refine Jm (l:=y.l) Ja rfl rfl rfl rfl rfl y.h.symm ?_;conv=>whnf
   refine Jb hwt rfl rfl ?_;conv=>whnf
   refine Qs ?_;conv=>whnf
   rw[←JI rfl];refine nF fun hc=>?_;conv=>whnf
   refine Jk (n:=128) (l:=y.l) Ja rfl rfl rfl rfl rfl rfl ⟨30,rfl,by decide,22,rfl,by decide, ?_⟩;conv=>whnf
   refine Ju (fx:=some 128) (l:=y.l) Ja rfl rfl rfl rfl rfl rfl (by show 22+8≤_;rw[y.h];decide) ?_;rw[show(y.l.drop 22).take (JV 30 22)=Jd y.l 22 30 from rfl];conv=>whnf
   refine⟨_,wO, ?_⟩;refine⟨(k+1,_),⟨h,hst.symm⟩,by show m-(k+1)<m-k;omega, ?_⟩;conv=>whnf
   refine⟨rfl, ?_⟩;conv=>whnf
   exact JE
  ·have hk1:((k:Int)==(m:Int)-1)=false:=by simp;omega
   refine⟨fun hc=>absurd (show((k:Int)==(m:Int)-1)=true from hc) (by rw[hk1];decide),fun hc=>?_⟩;conv=>whnf
   have hfl:Vi k (Qe s)=(0|||1:UInt8):=by rw[hm];simp only[Vi,if_pos h0,if_neg h1,bc2]
   refine⟨((q+k:Nat):Int),by dsimp only;rw[show(q:Int)+(k:Int)=((q+k:Nat):Int)from by omega];exact wO, ?_⟩;conv=>whnf
   refine⟨((k*90:Nat):Int),by dsimp only;rw[show 90*(k:Int)=((k*90:Nat):Int)from by omega];exact wO, ?_⟩;conv=>whnf
   refine⟨((k*90:Nat):Int),by dsimp only;rw[show 90*(k:Int)=((k*90:Nat):Int)from by omega];exact wO, ?_⟩;conv=>whnf
   refine⟨(((k+1)*90:Nat):Int),by rw[show((k*90:Nat):Int)+90=(((k+1)*90:Nat):Int)from by omega];exact wO, ?_⟩;conv=>whnf
   refine Gb (l:=s) Ja rfl rfl rfl ⟨min s.length ((k+1)*90),by show min (s.length:Int) _=_;omega,by omega,k*90,rfl,hcl, ?_⟩;rw[show(s.take (min s.length ((k+1)*90))).drop (k*90)=Qa s k from rfl];conv=>whnf
   refine Jb (aF2 (q+k) x.sess (by omega) (0|||1:UInt8) a.link (Qa s k) hak (Wj s k)) rfl rfl ?_;have hst':XT D.length x.sess s k a=⟨YY a.D (2+a.q%(D.length-2)) (YA (q+k) x.sess (0|||1:UInt8) a.link (Qa s k)),a.q+1,Jd (YA (q+k) x.sess (0|||1:UInt8) a.link (Qa s k)).l 22 30⟩:=by simp only[XT,hfl,haq]
   rw[hst']at hst;generalize YA (q+k) x.sess (0|||1:UInt8) a.link (Qa s k)=y at hst ⊢;have hwt:=ar8 a.D (2+a.q%(D.length-2)) (by rw[hal];omega) hnone y;rw[hal]at hwt;conv=>whnf
   refine cs ?_;conv=>whnf
   refine Jv Ja 128 rfl rfl rfl ?_;conv=>whnf
   refine Jp (l':=y.l) Ja rfl rfl rfl rfl rfl (by simp) (by rw[y.h];simp) (by decide) ?_;conv=>whnf
   refine⟨((q+k:Nat):Int),by dsimp only;rw[show(q:Int)+(k:Int)=((q+k:Nat):Int)from by omega];exact wO, ?_⟩;conv=>whnf
   refine Jb hslt rfl rfl ?_;conv=>whnf
   refine Qs ?_;conv=>whnf
   refine⟨((2+a.q%(D.length-2):Nat):Int),by rw[Int.zero_add];exact wO, ?_⟩;conv=>whnf
   refine Jm (l:=y.l) Ja rfl rfl rfl rfl rfl y.h.symm ?_;conv=>whnf
   refine Jb hwt rfl rfl ?_;conv=>whnf
   refine Qs ?_;conv=>whnf
   rw[←JI rfl];refine nF fun hc=>?_;conv=>whnf
   refine Jk (n:=128) (l:=y.l) Ja rfl rfl rfl rfl rfl rfl ⟨30,rfl,by decide,22,rfl,by decide, ?_⟩;conv=>whnf
   refine Ju (fx:=some 128) (l:=y.l) Ja rfl rfl rfl rfl rfl rfl (by show 22+8≤_;rw[y.h];decide) ?_;rw[show(y.l.drop 22).take (JV 30 22)=Jd y.l 22 30 from rfl];conv=>whnf
   refine⟨_,wO, ?_⟩;refine⟨(k+1,_),⟨h,hst.symm⟩,by show m-(k+1)<m-k;omega, ?_⟩;conv=>whnf
   refine⟨rfl, ?_⟩;conv=>whnf
   exact JE
 ·have hk0:((k:Int)==0)=false:=by simp;omega
  refine⟨fun hc=>absurd (show((k:Int)==0)=true from hc) (by rw[hk0];decide),fun hc=>?_⟩;conv=>whnf
  refine⟨(m:Int)-1,wO, ?_⟩;conv=>whnf
  by_cases h1:k+1=m
  ·have hk1:((k:Int)==(m:Int)-1)=true:=by simp;omega
   refine⟨fun hc=>?_,fun hc=>absurd (show((k:Int)==(m:Int)-1)=false from hc) (by rw[hk1];decide)⟩;conv=>whnf
   refine⟨((0|||2:UInt8).toNat:Int),by decide, ?_⟩;conv=>whnf
   have hfl:Vi k (Qe s)=(0|||2:UInt8):=by rw[hm];simp only[Vi,if_neg h0,if_pos h1]
   refine⟨((q+k:Nat):Int),by dsimp only;rw[show(q:Int)+(k:Int)=((q+k:Nat):Int)from by omega];exact wO, ?_⟩;conv=>whnf
   refine⟨((k*90:Nat):Int),by dsimp only;rw[show 90*(k:Int)=((k*90:Nat):Int)from by omega];exact wO, ?_⟩;conv=>whnf
   refine⟨((k*90:Nat):Int),by dsimp only;rw[show 90*(k:Int)=((k*90:Nat):Int)from by omega];exact wO, ?_⟩;conv=>whnf
   refine⟨(((k+1)*90:Nat):Int),by rw[show((k*90:Nat):Int)+90=(((k+1)*90:Nat):Int)from by omega];exact wO, ?_⟩;conv=>whnf
   refine Gb (l:=s) Ja rfl rfl rfl ⟨min s.length ((k+1)*90),by show min (s.length:Int) _=_;omega,by omega,k*90,rfl,hcl, ?_⟩;rw[show(s.take (min s.length ((k+1)*90))).drop (k*90)=Qa s k from rfl];conv=>whnf
   refine Jb (aF2 (q+k) x.sess (by omega) (0|||2:UInt8) a.link (Qa s k) hak (Wj s k)) rfl rfl ?_;have hst':XT D.length x.sess s k a=⟨YY a.D (2+a.q%(D.length-2)) (YA (q+k) x.sess (0|||2:UInt8) a.link (Qa s k)),a.q+1,Jd (YA (q+k) x.sess (0|||2:UInt8) a.link (Qa s k)).l 22 30⟩:=by simp only[XT,hfl,haq]
   rw[hst']at hst;generalize YA (q+k) x.sess (0|||2:UInt8) a.link (Qa s k)=y at hst ⊢;have hwt:=ar8 a.D (2+a.q%(D.length-2)) (by rw[hal];omega) hnone y;rw[hal]at hwt;conv=>whnf
   refine cs ?_;conv=>whnf
   refine Jv Ja 128 rfl rfl rfl ?_;conv=>whnf
   refine Jp (l':=y.l) Ja rfl rfl rfl rfl rfl (by simp) (by rw[y.h];simp) (by decide) ?_;conv=>whnf
   refine⟨((q+k:Nat):Int),by dsimp only;rw[show(q:Int)+(k:Int)=((q+k:Nat):Int)from by omega];exact wO, ?_⟩;conv=>whnf
   refine Jb hslt rfl rfl ?_;conv=>whnf
   refine Qs ?_;conv=>whnf
   refine⟨((2+a.q%(D.length-2):Nat):Int),by rw[Int.zero_add];exact wO, ?_⟩;conv=>whnf
   refine Jm (l:=y.l) Ja rfl rfl rfl rfl rfl y.h.symm ?_;conv=>whnf
   refine Jb hwt rfl rfl ?_;conv=>whnf
   refine Qs ?_;conv=>whnf
   rw[←JI rfl];refine nF fun hc=>?_;conv=>whnf
   refine Jk (n:=128) (l:=y.l) Ja rfl rfl rfl rfl rfl rfl ⟨30,rfl,by decide,22,rfl,by decide, ?_⟩;conv=>whnf
   refine Ju (fx:=some 128) (l:=y.l) Ja rfl rfl rfl rfl rfl rfl (by show 22+8≤_;rw[y.h];decide) ?_;rw[show(y.l.drop 22).take (JV 30 22)=Jd y.l 22 30 from rfl];conv=>whnf
   refine⟨_,wO, ?_⟩;refine⟨(k+1,_),⟨h,hst.symm⟩,by show m-(k+1)<m-k;omega, ?_⟩;conv=>whnf
   refine⟨rfl, ?_⟩;conv=>whnf
   exact JE
  ·have hk1:((k:Int)==(m:Int)-1)=false:=by simp;omega
   refine⟨fun hc=>absurd (show((k:Int)==(m:Int)-1)=true from hc) (by rw[hk1];decide),fun hc=>?_⟩;conv=>whnf
   have hfl:Vi k (Qe s)=(0:UInt8):=by rw[hm];simp only[Vi,if_neg h0,if_neg h1,bc2]
   refine⟨((q+k:Nat):Int),by dsimp only;rw[show(q:Int)+(k:Int)=((q+k:Nat):Int)from by omega];exact wO, ?_⟩;conv=>whnf
   refine⟨((k*90:Nat):Int),by dsimp only;rw[show 90*(k:Int)=((k*90:Nat):Int)from by omega];exact wO, ?_⟩;conv=>whnf
   refine⟨((k*90:Nat):Int),by dsimp only;rw[show 90*(k:Int)=((k*90:Nat):Int)from by omega];exact wO, ?_⟩;conv=>whnf
   refine⟨(((k+1)*90:Nat):Int),by rw[show((k*90:Nat):Int)+90=(((k+1)*90:Nat):Int)from by omega];exact wO, ?_⟩;conv=>whnf
   refine Gb (l:=s) Ja rfl rfl rfl ⟨min s.length ((k+1)*90),by show min (s.length:Int) _=_;omega,by omega,k*90,rfl,hcl, ?_⟩;rw[show(s.take (min s.length ((k+1)*90))).drop (k*90)=Qa s k from rfl];conv=>whnf
   refine Jb (aF2 (q+k) x.sess (by omega) (0:UInt8) a.link (Qa s k) hak (Wj s k)) rfl rfl ?_;have hst':XT D.length x.sess s k a=⟨YY a.D (2+a.q%(D.length-2)) (YA (q+k) x.sess (0:UInt8) a.link (Qa s k)),a.q+1,Jd (YA (q+k) x.sess (0:UInt8) a.link (Qa s k)).l 22 30⟩:=by simp only[XT,hfl,haq]
   rw[hst']at hst;generalize YA (q+k) x.sess (0:UInt8) a.link (Qa s k)=y at hst ⊢;have hwt:=ar8 a.D (2+a.q%(D.length-2)) (by rw[hal];omega) hnone y;rw[hal]at hwt;conv=>whnf
   refine cs ?_;conv=>whnf
   refine Jv Ja 128 rfl rfl rfl ?_;conv=>whnf
   refine Jp (l':=y.l) Ja rfl rfl rfl rfl rfl (by simp) (by rw[y.h];simp) (by decide) ?_;conv=>whnf
   refine⟨((q+k:Nat):Int),by dsimp only;rw[show(q:Int)+(k:Int)=((q+k:Nat):Int)from by omega];exact wO, ?_⟩;conv=>whnf
   refine Jb hslt rfl rfl ?_;conv=>whnf
   refine Qs ?_;conv=>whnf
   refine⟨((2+a.q%(D.length-2):Nat):Int),by rw[Int.zero_add];exact wO, ?_⟩;conv=>whnf
   refine Jm (l:=y.l) Ja rfl rfl rfl rfl rfl y.h.symm ?_;conv=>whnf
   refine Jb hwt rfl rfl ?_;conv=>whnf
   refine Qs ?_;conv=>whnf
   rw[←JI rfl];refine nF fun hc=>?_;conv=>whnf
   refine Jk (n:=128) (l:=y.l) Ja rfl rfl rfl rfl rfl rfl ⟨30,rfl,by decide,22,rfl,by decide, ?_⟩;conv=>whnf
   refine Ju (fx:=some 128) (l:=y.l) Ja rfl rfl rfl rfl rfl rfl (by show 22+8≤_;rw[y.h];decide) ?_;rw[show(y.l.drop 22).take (JV 30 22)=Jd y.l 22 30 from rfl];conv=>whnf
   refine⟨_,wO, ?_⟩;refine⟨(k+1,_),⟨h,hst.symm⟩,by show m-(k+1)<m-k;omega, ?_⟩;conv=>whnf
   refine⟨rfl, ?_⟩;conv=>whnf
   exact JE
end Go.Proofs
