/-
  A part of the proof that a law answers true: lemmas of a symbolic walk, plain functions, or contracts of the functions walked (V9, VA, Q1). Conditions: none.
-/
import Derived.Test.YtfcdjkeamldkaaaGreatPart27
import Derived.Test.YtfcdjkeamldkaaaGreatPart12
set_option maxRecDepth 100000
set_option linter.unusedVariables false
set_option linter.unusedSimpArgs false
namespace Go.Proofs
open Go.Sx
abbrev lgH(own:Bool)(n:Nat)(D:Dk)(b:Bs)(sess:Nat)(ks:List Kp):Je :=
 [(3,own, .cells (bP2 n b sess 4 ks.length)),(0,own,YE 1 n),(1,own,Vc 2 D),(2,own,Vv D),(4,own, .arr (GK ks))]
def au7(b:Bs)(ks:List Kp):Nat×List UInt8:=match ks.getLast? with
 |none=>(b.first.toNat,b.link)
 |some k=>(k.fin,k.link)
theorem bP3(ks:List Kp){i:Nat}(h:i<ks.length):(ks.take (i+1)).map (·.text)=(ks.take i).map (·.text)++[ks[i].text]:=by
 rw[JR h,List.map_append];rfl
theorem bE9{ks:List Kp}{i:Nat}(h:i<ks.length):∀hz,(GK ks).xs[JO 0 i]'hz=ks[i]:=fun hz=>by
 have e:JO 0 i=i:=by rw[Qc];omega
 show ks[JO 0 i]'hz=ks[i];congr 1
theorem cb7(D:Dk)(b:Bs)(sess:Nat)(ks:List Kp)(hk:ks.length≤100000):Triple Tryz.prog 39 [.c (.p 3 0 0 0)] (lgH false D.length D b sess ks) 5 (.c (.s 5 0 ks.length 1)) [(5,true, .arr (Va (ks.map (·.text))))]:=by
 refine Jc Ja Tryz.func39 rfl Tryz.call39 rfl ?_;intro ρ w hH;conv=>whnf
 refine Jz Ja (G:=Nat) 1 [] (fun i=>[(11,iv .i64 i),(3, .c (.s 5 0 i 1))]) (fun i=>[(5,true, .arr (Va ((ks.take i).map (·.text))))]) (fun i=>i≤ks.length) (fun i=>ks.length-i) ?_;conv=>whnf
 refine⟨⟨0,Nat.zero_le _, ?_⟩, ?_⟩
 ·conv=>whnf
  exact JE
 intro i hi ρ1 t1 hρ1;have hi:i≤ks.length:=hi;conv=>whnf
 refine⟨fun hc=>?_,fun hc=>?_⟩
 ·have h:i<ks.length:=by have:=of_decide_eq_true hc;omega
  have hst:=bP3 ks h;have hlen:((ks.take i).map (·.text)).length=i:=by rw[List.length_map,List.length_take];omega
  generalize (ks.take i).map (·.text)=pr at hst hlen ⊢;conv=>whnf
  refine⟨i,rfl,h,h, ?_⟩;have hx:∀hz,(GK ks).xs[JO 0 i]'hz=ks[i]:=bE9 h;conv=>whnf
  refine Yf Ja (Va [ks[i].text]) rfl rfl ?_;conv=>whnf
  refine⟨⟨rfl,cl⟩, ?_⟩;conv=>whnf
  refine VG Ja (Va pr) [ks[i].text] (pr++[ks[i].text]) (fun _=>rfl) rfl rfl rfl rfl ?_;conv=>whnf
  have e:pr.take i++(([ks[i].text]:List (List UInt8)).drop 0).take 1=pr++[ks[i].text]:=by
   rw[List.take_of_length_le (by omega)];rfl
  refine⟨⟨rfl,rfl,(by show i≤pr.length;omega),Nat.le_refl _,by show(i+1)*17≤140737488355328;omega,e⟩, ?_⟩;conv=>whnf
  refine⟨_,wO, ?_⟩;refine⟨i+1,h,by show ks.length-(i+1)<ks.length-i;omega, ?_⟩;dsimp only;rw[hst];conv=>whnf
  refine⟨rfl, ?_⟩;have elen:(pr++[ks[i].text]).length=i+1:=by rw[List.length_append,hlen];rfl
  conv=>whnf
  repeat' (first|exact elen|exact trivial|exact rfl|refine And.intro ?_ ?_|((conv=>whnf);first|exact elen|exact trivial|exact rfl|refine And.intro ?_ ?_|omega))
 ·have hie:i=ks.length:=by have:=of_decide_eq_false hc;omega
  subst hie;rw[List.take_length];conv=>whnf
  exact JE
theorem cs8(D:Dk)(b:Bs)(sess:Nat)(ks:List Kp)(hk:ks.length≤100000):Triple Tryz.prog 78 [.c (.p 3 0 0 0)] (lgH false D.length D b sess ks) 5 (.tup [.inl (.v (.int .u64 (au7 b ks).1)), .inl (WI (au7 b ks).2)]) []:=by
 rcases List.eq_nil_or_concat ks with h0|⟨ks',k,h0⟩
 ·subst h0;refine Jc Ja Tryz.func78 rfl Tryz.call78 rfl ?_;intro ρ w hH;conv=>whnf
  refine nF fun hc=>?_;conv=>whnf
  exact JE
 ·have hks:ks=ks'++[k]:=by rw[h0];simp
  have hlen:ks.length=ks'.length+1:=by rw[hks];simp
  have hend:au7 b ks=(k.fin,k.link):=by rw[hks];simp[au7]
  have hget:∀h,ks[ks'.length]'h=k:=fun h=>by subst hks;simp
  rw[hend];refine Jc Ja Tryz.func78 rfl Tryz.call78 rfl ?_;intro ρ w hH;conv=>whnf
  have hx:∀hz,(GK ks).xs[JO 0 ks'.length]'hz=k:=fun hz=>(bE9 (show ks'.length<ks.length by omega) hz).trans (hget _);refine⟨fun hc=>?_,fun hc=>absurd (of_decide_eq_false hc) (by omega)⟩;conv=>whnf
  refine⟨(ks'.length:Int),by rw[show(ks.length:Int)-1=(ks'.length:Int)from by omega];exact wO, ?_⟩;conv=>whnf
  refine⟨ks'.length,rfl,by omega, ?_⟩;conv=>whnf
  refine⟨by show JO 0 ks'.length<ks.length;rw[Qc];omega, ?_⟩;rw[hx];conv=>whnf
  refine⟨(ks'.length:Int),by rw[show(ks.length:Int)-1=(ks'.length:Int)from by omega];exact wO, ?_⟩;conv=>whnf
  refine⟨ks'.length,rfl,by omega, ?_⟩;conv=>whnf
  refine⟨by show JO 0 ks'.length<ks.length;rw[Qc];omega, ?_⟩;rw[hx];conv=>whnf
  exact JE
theorem cF3(D:Dk)(hd:D.length≤65536)(b:Bs)(sess:Nat)(ks:List Kp)(hk:ks.length≤100000)(q:Nat)(hq:(au7 b ks).1=q)(hb:b.first.toNat≤q)(hr:q-b.first.toNat≤65536) :
 Triple Tryz.prog 79 [.c (.p 3 0 0 0)] (lgH false D.length D b sess ks) 5 (iv .i64 ((D.length:Int)-2-((q-b.first.toNat:Nat):Int))) []:=by
 have hend:=cs8 D b sess ks hk;rw[hq]at hend;have hu:=b.first.toNat_lt;refine Jc Ja Tryz.func79 rfl Tryz.call79 rfl ?_;intro ρ w hH;conv=>whnf
 refine Jb hend rfl rfl ?_;conv=>whnf
 refine Qs ?_;conv=>whnf
 refine⟨_,wO, ?_⟩;refine⟨((q-b.first.toNat:Nat):Int),by rw[show(q:Int)-(b.first.toNat:Int)=((q-b.first.toNat:Nat):Int)from by omega];exact Ym _ (by omega), ?_⟩;conv=>whnf
 refine⟨((q-b.first.toNat:Nat):Int),wO, ?_⟩;conv=>whnf
 refine⟨(D.length:Int)-2-((q-b.first.toNat:Nat):Int),wO, ?_⟩;conv=>whnf
 exact JE
theorem bA4(D:Dk)(hd:D.length≤65536)(b:Bs)(sess:Nat)(ks:List Kp) :
 Triple Tryz.prog 36 [.c (.p 3 0 0 0)] (lgH true D.length D b sess ks) 5 (iv .i64 0) (lgH true D.length (YD D) b sess ks):=by
 refine Jc Ja Tryz.func36 rfl Tryz.call36 rfl ?_;intro ρ w hH;conv=>whnf
 refine Jb (cb0 D (by omega)) rfl rfl ?_;conv=>whnf
 refine Qs ?_;conv=>whnf
 rw[←JI rfl];exact JE
def Qe(s:List UInt8):Nat:=max 1 ((s.length+89)/90)
def Vi(k n:Nat):UInt8:=(if k=0 then 0|||1 else 0)|||(if k+1=n then 2 else 0)
theorem bc2(x:UInt8):x|||0=x:=by simp
def Qa(s:List UInt8)(k:Nat):List UInt8:=(s.take (min s.length ((k+1)*90))).drop (k*90)
theorem Wj(s:List UInt8)(k:Nat):(Qa s k).length≤90:=by
 unfold Qa;rw[List.length_drop,List.length_take];omega
theorem aV9{s:List UInt8}{k:Nat}(h:k<Qe s):k*90≤min s.length ((k+1)*90):=by
 unfold Qe at h;omega
def YA(q sess:Nat)(flags:UInt8)(link text:List UInt8):Sct :=
 if h:link.length=8∧text.length≤90 then⟨ae4 (UInt64.ofNat q) (UInt64.ofNat sess) flags link text,aG4 _ _ _ _ _ h.1 h.2⟩else JS
theorem aW0(q sess:Nat)(flags:UInt8){link text:List UInt8}(h1:link.length=8)(h2:text.length≤90):(YA q sess flags link text).l=ae4 (UInt64.ofNat q) (UInt64.ofNat sess) flags link text:=by
 unfold YA;rw[dif_pos ⟨h1,h2⟩]
structure Ap where
 D:Dk
 q:Nat
 link:List UInt8
def XT(n sess:Nat)(s:List UInt8)(k:Nat)(a:Ap):Ap :=
 ⟨YY a.D (2+a.q%(n-2)) (YA a.q sess (Vi k (Qe s)) a.link (Qa s k)),a.q+1,Jd (YA a.q sess (Vi k (Qe s)) a.link (Qa s k)).l 22 30⟩
def WA(n sess:Nat)(s:List UInt8)(a:Ap):Nat→Ap
 |0=>a
 |k+1=>XT n sess s k (WA n sess s a k)
def UH(D:Dk)(n q m:Nat):Prop:=∀j,j<m→∀r,D[2+(q+j)%(n-2)]? = some r→r.2=none
theorem cF4{q d n:Nat}(h0:0<d)(h:d<n):(q+d)%n≠q%n:=by
 intro e;have:=Nat.sub_mod_eq_zero_of_mod_eq e;rw[Nat.add_sub_cancel_left,Nat.mod_eq_of_lt h]at this;omega
theorem UH.step{D:Dk}{n q m:Nat}(h:UH D n q (m+1))(hm:m+1≤n-2)(x:Sct):UH (YY D (2+q%(n-2)) x) n (q+1) m:=by
 intro j hj r hr;rw[Um]at hr;have hne:¬2+(q+1+j)%(n-2)=2+q%(n-2):=by
  have:=@cF4 q (1+j) (n-2) (by omega) (by omega);rw[show q+(1+j)=q+1+j from by omega]at this;omega
 cases hd:D[2+(q+1+j)%(n-2)]? with
 |none=>rw[hd]at hr;cases hr
 |some r' =>
  rw[hd]at hr;simp only[Option.map_some,if_neg hne]at hr;have e:=Option.some.inj hr;subst e;exact h (j+1) (by omega) r' (by rw[show q+(j+1)=q+1+j from by omega];exact hd)
structure ApI (n q0 m k:Nat) (a:Ap):Prop where
 len:a.D.length=n
 q:a.q=q0+k
 link:a.link.length=8
 free:UH a.D n (q0+k) (m-k)
theorem ApI.step{n q0 m k sess:Nat}{s:List UInt8}{a:Ap}(h:ApI n q0 m k a)(hk:k<m)(hm:m≤n-2):ApI n q0 m (k+1) (XT n sess s k a):=by
 refine⟨by show(YY _ _ _).length=n;rw[GC];exact h.len,by show a.q+1=_;rw[h.q];omega, ?_, ?_⟩
 ·show(Jd (YA _ _ _ _ _).l 22 30).length=8;rw[Jd,List.length_take,List.length_drop,(YA _ _ _ _ _).h];rfl
 ·have hf:=h.free;rw[show m-k=m-(k+1)+1 from by omega]at hf;show UH (YY a.D (2+a.q%(n-2)) _) n _ _;rw[h.q];exact hf.step (by omega) _
theorem bc3{n q0 m sess:Nat}{s:List UInt8}{a:Ap}(h:ApI n q0 m 0 a)(hm:m≤n-2):∀k,k≤m→ApI n q0 m k (WA n sess s a k)
 |0,_=>h
 |k+1,hk=>(bc3 h hm k (by omega)).step (by omega) hm
theorem uvq{q:Nat}(h:q<18446744073709551616):iv .u64 (q:Int)=uv (UInt64.ofNat q):=by
 show iv .u64 (q:Int)=iv .u64 _;rw[UInt64.toNat_ofNat_of_lt' h]
theorem aF1(q sess:Nat)(hq:q<18446744073709551616)(hs:sess<18446744073709551616)(flags:UInt8)(link text:List UInt8)(hk:link.length=8)(ht:text.length≤90) :
 Triple Tryz.prog 80 [iv .u64 q,iv .u64 sess,bt flags,YC link,YC text] [] 0 (YQ (YA q sess flags link text).l) []:=by
 rw[uvq hq,uvq hs,aW0 q sess flags hk ht];exact cz8 _ _ flags link text hk ht
theorem co4(D:Dk)(hd:6≤D.length∧D.length≤65536)(b:Bs)(sess:Nat)(hss:sess<18446744073709551616)(ks:List Kp)(hk:ks.length≤100000)(q:Nat)(link:List UInt8)(he:au7 b ks=(q,link))(hlk:link.length=8)
 (hb:b.first.toNat≤q) (hqb:q≤1000000) (s:List UInt8) (hsl:s.length≤6000) (hroom:q-b.first.toNat+Qe s≤D.length-2) (hfree:UH D D.length q (Qe s)) :
 Triple Tryz.prog 34 [.c (.p 3 0 0 0),YC s] (lgH true D.length D b sess ks) 5 (iv .i64 0)
  [(0,true,YE 1 D.length),(1,true,Vc 5 (WA D.length sess s ⟨D,q,link⟩ (Qe s)).D),(5,true,Vv (WA D.length sess s ⟨D,q,link⟩ (Qe s)).D),
   (3,true, .cells (bP2 D.length b sess 6 (ks.length+1))),(6,true, .arr (GK (ks++[⟨s,(WA D.length sess s ⟨D,q,link⟩ (Qe s)).q,(WA D.length sess s ⟨D,q,link⟩ (Qe s)).link⟩])))]:=by
 have hend:=cs8 D b sess ks hk;rw[he]at hend;have hrm:=cF3 D hd.2 b sess ks hk q (by rw[he]) hb (by omega);have hn1:1≤Qe s:=by unfold Qe;omega
 have hnS:Qe s≤67:=by unfold Qe;omega
 have hI:=bc3 (sess:=sess) (s:=s) (a:=⟨D,q,link⟩) (q0:=q) (m:=Qe s) (n:=D.length) ⟨rfl,rfl,hlk,hfree⟩ (by omega);refine Jc Ja Tryz.func34 rfl Tryz.call34 rfl ?_;intro ρ w hH;conv=>whnf
 refine Jb hend rfl rfl ?_;conv=>whnf
 refine Qs ?_;conv=>whnf
 refine⟨((s.length+90:Nat):Int),by show IntKind.i64.wrap ((s.length:Int)+90)=_;rw[show(s.length:Int)+90=((s.length+90:Nat):Int)from by omega];exact wO, ?_⟩;conv=>whnf
 refine⟨((s.length+89:Nat):Int),by rw[show((s.length+90:Nat):Int)-1=((s.length+89:Nat):Int)from by omega];exact wO, ?_⟩;conv=>whnf
 refine⟨by decide,(((s.length+89)/90:Nat):Int),by rw[show((s.length+89:Nat):Int).tdiv 90=(((s.length+89)/90:Nat):Int)from(Int.ofNat_tdiv (s.length+89) 90).symm];exact wO, ?_⟩;conv=>whnf
 have hmx:max (1:Int) (((s.length+89)/90:Nat):Int)=((Qe s:Nat):Int):=by unfold Qe;omega
 rw[hmx];generalize hm:Qe s=m at hroom hfree hn1 hnS hI ⊢;conv=>whnf
 refine⟨fun hc=>?_,fun hc=>?_⟩
 ·have hc:decide ((6000:Int)<(s.length:Int))=true:=hc;exact absurd (of_decide_eq_true hc) (by omega)
 conv=>whnf
 refine Jb hrm rfl rfl ?_;conv=>whnf
 refine Qs ?_;conv=>whnf
 refine⟨fun hc=>?_,fun hc=>?_⟩
 ·exact absurd (of_decide_eq_true hc) (by omega)
 conv=>whnf
 refine⟨(m:Int),Ym m (by omega), ?_⟩;conv=>whnf
 refine⟨((q+m:Nat):Int),by dsimp only;rw[show(q:Int)+(m:Int)=((q+m:Nat):Int)from by omega];exact Ym _ (by omega), ?_⟩;conv=>whnf
 refine⟨((q+m-1:Nat):Int),by rw[show((q+m:Nat):Int)-1=((q+m-1:Nat):Int)from by omega];exact Ym _ (by omega), ?_⟩;conv=>whnf
 refine⟨fun hc=>?_,fun hc=>?_⟩
 ·exact absurd (of_decide_eq_true hc) (by omega)
 conv=>whnf
 refine Jz Ja (G:=Nat×Ap) 1 [2] (fun g=>[(40,iv .i64 g.1),(5,iv .u64 g.2.q),(6,YC g.2.link)]) (fun g=>[(0,true,YE 1 D.length),(1,true,Vc 5 g.2.D),(5,true,Vv g.2.D)]) (fun g=>g.1≤m∧g.2=WA D.length sess s ⟨D,q,link⟩ g.1) (fun g=>m-g.1) ?_;conv=>whnf
 refine⟨⟨(0,⟨D,q,link⟩),⟨Nat.zero_le _,rfl⟩, ?_⟩, ?_⟩
 ·conv=>whnf
  exact JE
 rintro ⟨k,a⟩ ⟨hkm,ha⟩ ρ1 t1 hρ1
 have hkm:k≤m:=hkm;have ha:a=WA D.length sess s ⟨D,q,link⟩ k:=ha;conv=>whnf
 refine⟨fun hc=>?_,fun hc=>?_⟩
 rotate_left
 ·have hke:k=m:=by have:=of_decide_eq_false hc;omega
  subst hke;rw[←ha];conv=>whnf
  refine Yf Ja (GK [⟨s,a.q,a.link⟩]) rfl rfl ?_;conv=>whnf
  refine⟨⟨rfl,cl⟩, ?_⟩;generalize hr:(⟨s,a.q,a.link⟩:Kp)=r;conv=>whnf
  refine VG Ja (GK ks) [r] (ks++[r]) (fun _=>rfl) rfl rfl rfl rfl ?_;conv=>whnf
  refine⟨⟨rfl,rfl,Nat.le_refl _,Nat.le_refl _,by show(ks.length+1)*41≤140737488355328;omega,ab0⟩, ?_⟩;have e3:(ks++[r]).length=ks.length+1:=by rw[List.length_append];rfl
  conv=>whnf
  repeat' (first|exact JI rfl|exact e3|exact trivial|exact rfl|refine And.intro ?_ ?_|((conv=>whnf);first|exact JI rfl|exact e3|exact trivial|exact rfl|refine And.intro ?_ ?_|omega))
 have h:k<m:=by have:=of_decide_eq_true hc;omega
 have hAI:=hI k hkm;rw[←ha]at hAI;obtain⟨hal,haq,hak,haf⟩:=hAI;have hst:WA D.length sess s ⟨D,q,link⟩ (k+1)=XT D.length sess s k a:=by rw[ha];rfl
 have hml:=Nat.mod_lt a.q (show 0<D.length-2 by omega);have hcl:=aV9 (s:=s) (k:=k) (by omega)
 have hnone:(a.D[2+a.q%(D.length-2)]'(by rw[hal];omega)).2=none:=by
  refine haf 0 (by omega) _ ?_;rw[←haq];exact List.getElem?_eq_getElem _
 have hslt:Triple Tryz.prog 70 [.agg (aE9 D.length),iv .u64 a.q] [(0,false,YE 1 D.length),(1,false,Vc 2 a.D),(2,false,Vv a.D)] 3 (iv .i64 ((2+a.q%(D.length-2):Nat):Int)) []:=by
  have:=cb4 a.D D.length hd a.q (by omega);dsimp only[dkH]at this;rw[hal]at this;exact this
 conv=>whnf
 by_cases h0:k=0
 ·have hk0:((k:Int)==0)=true:=by rw[h0];rfl
  refine⟨fun hc=>?_,fun hc=>absurd (show((k:Int)==0)=false from hc) (by rw[hk0];decide)⟩;conv=>whnf
  refine⟨_,bm4 0 1, ?_⟩;conv=>whnf
  refine⟨(m:Int)-1,wO, ?_⟩;conv=>whnf
  by_cases h1:k+1=m
  ·have hk1:((k:Int)==(m:Int)-1)=true:=by simp;omega
   refine⟨fun hc=>?_,fun hc=>absurd (show((k:Int)==(m:Int)-1)=false from hc) (by rw[hk1];decide)⟩;conv=>whnf
   refine⟨_,bm4 (0|||1) 2, ?_⟩;conv=>whnf
   have hfl:Vi k (Qe s)=((0|||1)|||2:UInt8):=by rw[hm];simp only[Vi,if_pos h0,if_pos h1]
   refine⟨((k*90:Nat):Int),by dsimp only;rw[show(k:Int)*90=((k*90:Nat):Int)from by omega];exact wO, ?_⟩;conv=>whnf
   refine⟨((k+1:Nat):Int),by dsimp only;rw[show(k:Int)+1=((k+1:Nat):Int)from by omega];exact wO, ?_⟩;conv=>whnf
   refine⟨(((k+1)*90:Nat):Int),by rw[show((k+1:Nat):Int)*90=(((k+1)*90:Nat):Int)from by omega];exact wO, ?_⟩;conv=>whnf
   refine Gb (l:=s) Ja rfl rfl rfl ⟨min s.length ((k+1)*90),by show min (s.length:Int) _=_;omega,by omega,k*90,rfl,hcl, ?_⟩;rw[show(s.take (min s.length ((k+1)*90))).drop (k*90)=Qa s k from rfl];conv=>whnf
   refine Jb (aF1 a.q sess (by omega) hss ((0|||1)|||2:UInt8) a.link (Qa s k) hak (Wj s k)) rfl rfl ?_;have hst':XT D.length sess s k a=⟨YY a.D (2+a.q%(D.length-2)) (YA a.q sess ((0|||1)|||2:UInt8) a.link (Qa s k)),a.q+1,Jd (YA a.q sess ((0|||1)|||2:UInt8) a.link (Qa s k)).l 22 30⟩:=by simp only[XT,hfl]
   rw[hst']at hst;generalize YA a.q sess ((0|||1)|||2:UInt8) a.link (Qa s k)=x at hst ⊢;have hwt:=az6 a.D (2+a.q%(D.length-2)) (by rw[hal];omega) hnone x;rw[hal]at hwt;conv=>whnf
   refine cs ?_;conv=>whnf
   refine Jv Ja 128 rfl rfl rfl ?_;conv=>whnf
   refine Jp (l':=x.l) Ja rfl rfl rfl rfl rfl (by simp) (by rw[x.h];simp) (by decide) ?_;conv=>whnf
   refine Jb hslt rfl rfl ?_;conv=>whnf
   refine Qs ?_;conv=>whnf
   refine⟨((2+a.q%(D.length-2):Nat):Int),by rw[Int.zero_add];exact wO, ?_⟩;conv=>whnf
   refine Jm (l:=x.l) Ja rfl rfl rfl rfl rfl x.h.symm ?_;conv=>whnf
   refine Jb hwt rfl rfl ?_;conv=>whnf
   refine Qs ?_;conv=>whnf
   rw[←JI rfl];refine nF fun hc=>?_;conv=>whnf
   refine⟨((a.q+1:Nat):Int),by dsimp only;rw[show(a.q:Int)+1=((a.q+1:Nat):Int)from by omega];exact Ym _ (by omega), ?_⟩;conv=>whnf
   refine Jk (n:=128) (l:=x.l) Ja rfl rfl rfl rfl rfl rfl ⟨30,rfl,by decide,22,rfl,by decide, ?_⟩;conv=>whnf
   refine Ju (fx:=some 128) (l:=x.l) Ja rfl rfl rfl rfl rfl rfl (by show 22+8≤_;rw[x.h];decide) ?_;rw[show(x.l.drop 22).take (JV 30 22)=Jd x.l 22 30 from rfl];conv=>whnf
   refine⟨_,wO, ?_⟩;refine⟨(k+1,_),⟨h,hst.symm⟩,by show m-(k+1)<m-k;omega, ?_⟩;conv=>whnf
   refine⟨rfl, ?_⟩;conv=>whnf
   exact JE
  ·have hk1:((k:Int)==(m:Int)-1)=false:=by simp;omega
   refine⟨fun hc=>absurd (show((k:Int)==(m:Int)-1)=true from hc) (by rw[hk1];decide),fun hc=>?_⟩;conv=>whnf
   have hfl:Vi k (Qe s)=(0|||1:UInt8):=by rw[hm];simp only[Vi,if_pos h0,if_neg h1,bc2]
   refine⟨((k*90:Nat):Int),by dsimp only;rw[show(k:Int)*90=((k*90:Nat):Int)from by omega];exact wO, ?_⟩;conv=>whnf
   refine⟨((k+1:Nat):Int),by dsimp only;rw[show(k:Int)+1=((k+1:Nat):Int)from by omega];exact wO, ?_⟩;conv=>whnf
   refine⟨(((k+1)*90:Nat):Int),by rw[show((k+1:Nat):Int)*90=(((k+1)*90:Nat):Int)from by omega];exact wO, ?_⟩;conv=>whnf
   refine Gb (l:=s) Ja rfl rfl rfl ⟨min s.length ((k+1)*90),by show min (s.length:Int) _=_;omega,by omega,k*90,rfl,hcl, ?_⟩;rw[show(s.take (min s.length ((k+1)*90))).drop (k*90)=Qa s k from rfl];conv=>whnf
   refine Jb (aF1 a.q sess (by omega) hss (0|||1:UInt8) a.link (Qa s k) hak (Wj s k)) rfl rfl ?_;have hst':XT D.length sess s k a=⟨YY a.D (2+a.q%(D.length-2)) (YA a.q sess (0|||1:UInt8) a.link (Qa s k)),a.q+1,Jd (YA a.q sess (0|||1:UInt8) a.link (Qa s k)).l 22 30⟩:=by simp only[XT,hfl]
   rw[hst']at hst;generalize YA a.q sess (0|||1:UInt8) a.link (Qa s k)=x at hst ⊢;have hwt:=az6 a.D (2+a.q%(D.length-2)) (by rw[hal];omega) hnone x;rw[hal]at hwt;conv=>whnf
   refine cs ?_;conv=>whnf
   refine Jv Ja 128 rfl rfl rfl ?_;conv=>whnf
   refine Jp (l':=x.l) Ja rfl rfl rfl rfl rfl (by simp) (by rw[x.h];simp) (by decide) ?_;conv=>whnf
   refine Jb hslt rfl rfl ?_;conv=>whnf
   refine Qs ?_;conv=>whnf
   refine⟨((2+a.q%(D.length-2):Nat):Int),by rw[Int.zero_add];exact wO, ?_⟩;conv=>whnf
   refine Jm (l:=x.l) Ja rfl rfl rfl rfl rfl x.h.symm ?_;conv=>whnf
   refine Jb hwt rfl rfl ?_;conv=>whnf
   refine Qs ?_;conv=>whnf
   rw[←JI rfl];refine nF fun hc=>?_;conv=>whnf
   refine⟨((a.q+1:Nat):Int),by dsimp only;rw[show(a.q:Int)+1=((a.q+1:Nat):Int)from by omega];exact Ym _ (by omega), ?_⟩;conv=>whnf
   refine Jk (n:=128) (l:=x.l) Ja rfl rfl rfl rfl rfl rfl ⟨30,rfl,by decide,22,rfl,by decide, ?_⟩;conv=>whnf
   refine Ju (fx:=some 128) (l:=x.l) Ja rfl rfl rfl rfl rfl rfl (by show 22+8≤_;rw[x.h];decide) ?_;rw[show(x.l.drop 22).take (JV 30 22)=Jd x.l 22 30 from rfl];conv=>whnf
   refine⟨_,wO, ?_⟩;refine⟨(k+1,_),⟨h,hst.symm⟩,by show m-(k+1)<m-k;omega, ?_⟩;conv=>whnf
   refine⟨rfl, ?_⟩;conv=>whnf
   exact JE
 ·have hk0:((k:Int)==0)=false:=by simp;omega
  refine⟨fun hc=>absurd (show((k:Int)==0)=true from hc) (by rw[hk0];decide),fun hc=>?_⟩;conv=>whnf
  refine⟨(m:Int)-1,wO, ?_⟩;conv=>whnf
  by_cases h1:k+1=m
  ·have hk1:((k:Int)==(m:Int)-1)=true:=by simp;omega
   refine⟨fun hc=>?_,fun hc=>absurd (show((k:Int)==(m:Int)-1)=false from hc) (by rw[hk1];decide)⟩;conv=>whnf
   refine⟨_,bm4 0 2, ?_⟩;conv=>whnf
   have hfl:Vi k (Qe s)=(0|||2:UInt8):=by rw[hm];simp only[Vi,if_neg h0,if_pos h1]
   refine⟨((k*90:Nat):Int),by dsimp only;rw[show(k:Int)*90=((k*90:Nat):Int)from by omega];exact wO, ?_⟩;conv=>whnf
   refine⟨((k+1:Nat):Int),by dsimp only;rw[show(k:Int)+1=((k+1:Nat):Int)from by omega];exact wO, ?_⟩;conv=>whnf
   refine⟨(((k+1)*90:Nat):Int),by rw[show((k+1:Nat):Int)*90=(((k+1)*90:Nat):Int)from by omega];exact wO, ?_⟩;conv=>whnf
   refine Gb (l:=s) Ja rfl rfl rfl ⟨min s.length ((k+1)*90),by show min (s.length:Int) _=_;omega,by omega,k*90,rfl,hcl, ?_⟩;rw[show(s.take (min s.length ((k+1)*90))).drop (k*90)=Qa s k from rfl];conv=>whnf
   refine Jb (aF1 a.q sess (by omega) hss (0|||2:UInt8) a.link (Qa s k) hak (Wj s k)) rfl rfl ?_;have hst':XT D.length sess s k a=⟨YY a.D (2+a.q%(D.length-2)) (YA a.q sess (0|||2:UInt8) a.link (Qa s k)),a.q+1,Jd (YA a.q sess (0|||2:UInt8) a.link (Qa s k)).l 22 30⟩:=by simp only[XT,hfl]
   rw[hst']at hst;generalize YA a.q sess (0|||2:UInt8) a.link (Qa s k)=x at hst ⊢;have hwt:=az6 a.D (2+a.q%(D.length-2)) (by rw[hal];omega) hnone x;rw[hal]at hwt;conv=>whnf
   refine cs ?_;conv=>whnf
   refine Jv Ja 128 rfl rfl rfl ?_;conv=>whnf
   refine Jp (l':=x.l) Ja rfl rfl rfl rfl rfl (by simp) (by rw[x.h];simp) (by decide) ?_;conv=>whnf
   refine Jb hslt rfl rfl ?_;conv=>whnf
   refine Qs ?_;conv=>whnf
   refine⟨((2+a.q%(D.length-2):Nat):Int),by rw[Int.zero_add];exact wO, ?_⟩;conv=>whnf
   refine Jm (l:=x.l) Ja rfl rfl rfl rfl rfl x.h.symm ?_;conv=>whnf
   refine Jb hwt rfl rfl ?_;conv=>whnf
   refine Qs ?_;conv=>whnf
   rw[←JI rfl];refine nF fun hc=>?_;conv=>whnf
   refine⟨((a.q+1:Nat):Int),by dsimp only;rw[show(a.q:Int)+1=((a.q+1:Nat):Int)from by omega];exact Ym _ (by omega), ?_⟩;conv=>whnf
   refine Jk (n:=128) (l:=x.l) Ja rfl rfl rfl rfl rfl rfl ⟨30,rfl,by decide,22,rfl,by decide, ?_⟩;conv=>whnf
   refine Ju (fx:=some 128) (l:=x.l) Ja rfl rfl rfl rfl rfl rfl (by show 22+8≤_;rw[x.h];decide) ?_;rw[show(x.l.drop 22).take (JV 30 22)=Jd x.l 22 30 from rfl];conv=>whnf
   refine⟨_,wO, ?_⟩;refine⟨(k+1,_),⟨h,hst.symm⟩,by show m-(k+1)<m-k;omega, ?_⟩;conv=>whnf
   refine⟨rfl, ?_⟩;conv=>whnf
   exact JE
  ·have hk1:((k:Int)==(m:Int)-1)=false:=by simp;omega
   refine⟨fun hc=>absurd (show((k:Int)==(m:Int)-1)=true from hc) (by rw[hk1];decide),fun hc=>?_⟩;conv=>whnf
   have hfl:Vi k (Qe s)=(0:UInt8):=by rw[hm];simp only[Vi,if_neg h0,if_neg h1,bc2]
   refine⟨((k*90:Nat):Int),by dsimp only;rw[show(k:Int)*90=((k*90:Nat):Int)from by omega];exact wO, ?_⟩;conv=>whnf
   refine⟨((k+1:Nat):Int),by dsimp only;rw[show(k:Int)+1=((k+1:Nat):Int)from by omega];exact wO, ?_⟩;conv=>whnf
   refine⟨(((k+1)*90:Nat):Int),by rw[show((k+1:Nat):Int)*90=(((k+1)*90:Nat):Int)from by omega];exact wO, ?_⟩;conv=>whnf
   refine Gb (l:=s) Ja rfl rfl rfl ⟨min s.length ((k+1)*90),by show min (s.length:Int) _=_;omega,by omega,k*90,rfl,hcl, ?_⟩;rw[show(s.take (min s.length ((k+1)*90))).drop (k*90)=Qa s k from rfl];conv=>whnf
   refine Jb (aF1 a.q sess (by omega) hss (0:UInt8) a.link (Qa s k) hak (Wj s k)) rfl rfl ?_;have hst':XT D.length sess s k a=⟨YY a.D (2+a.q%(D.length-2)) (YA a.q sess (0:UInt8) a.link (Qa s k)),a.q+1,Jd (YA a.q sess (0:UInt8) a.link (Qa s k)).l 22 30⟩:=by simp only[XT,hfl]
   rw[hst']at hst;generalize YA a.q sess (0:UInt8) a.link (Qa s k)=x at hst ⊢;have hwt:=az6 a.D (2+a.q%(D.length-2)) (by rw[hal];omega) hnone x;rw[hal]at hwt;conv=>whnf
   refine cs ?_;conv=>whnf
   refine Jv Ja 128 rfl rfl rfl ?_;conv=>whnf
   refine Jp (l':=x.l) Ja rfl rfl rfl rfl rfl (by simp) (by rw[x.h];simp) (by decide) ?_;conv=>whnf
   refine Jb hslt rfl rfl ?_;conv=>whnf
   refine Qs ?_;conv=>whnf
   refine⟨((2+a.q%(D.length-2):Nat):Int),by rw[Int.zero_add];exact wO, ?_⟩;conv=>whnf
   refine Jm (l:=x.l) Ja rfl rfl rfl rfl rfl x.h.symm ?_;conv=>whnf
   refine Jb hwt rfl rfl ?_;conv=>whnf
   refine Qs ?_;conv=>whnf
   rw[←JI rfl];refine nF fun hc=>?_;conv=>whnf
   refine⟨((a.q+1:Nat):Int),by dsimp only;rw[show(a.q:Int)+1=((a.q+1:Nat):Int)from by omega];exact Ym _ (by omega), ?_⟩;conv=>whnf
   refine Jk (n:=128) (l:=x.l) Ja rfl rfl rfl rfl rfl rfl ⟨30,rfl,by decide,22,rfl,by decide, ?_⟩;conv=>whnf
   refine Ju (fx:=some 128) (l:=x.l) Ja rfl rfl rfl rfl rfl rfl (by show 22+8≤_;rw[x.h];decide) ?_;rw[show(x.l.drop 22).take (JV 30 22)=Jd x.l 22 30 from rfl];conv=>whnf
   refine⟨_,wO, ?_⟩;refine⟨(k+1,_),⟨h,hst.symm⟩,by show m-(k+1)<m-k;omega, ?_⟩;conv=>whnf
   refine⟨rfl, ?_⟩;conv=>whnf
   exact JE
theorem co5(z:UInt64):(z>>>UInt64.ofNat 7).toNat=z.toNat/128:=by
 rw[UInt64.toNat_shiftRight];show z.toNat>>>7=_;rw[Nat.shiftRight_eq_div_pow]
theorem cz9(z:UInt64):(z.toUInt8|||128).toNat=z.toNat%128+128:=by
 have:∀b:Nat,b<256→b|||128=b%128+128:=by decide
 rw[UInt8.toNat_or];show z.toUInt8.toNat|||128=_
 rw[this _ z.toUInt8.toNat_lt,UInt64.toNat_toUInt8];omega
theorem aM5(n:Int)(hn:0≤n∧n≤4611686018427387904):Triple Tryz.prog 124 [iv .i64 n] [] 0 (YC (JH n)) []:=by
 have hzp:=cv3 (n:=n) hn.1 (by omega);refine Jc Ja Tryz.func124 rfl Tryz.call124 rfl ?_;intro ρ w hH;conv=>whnf
 refine⟨n,by rw[XC];omega, ?_⟩;conv=>whnf
 refine⟨((bK5 n).toNat:Int),by rw[hzp,XC];omega, ?_⟩;conv=>whnf
 refine⟨fun hc=>absurd (of_decide_eq_true hc) (by omega),fun hc=>?_⟩;conv=>whnf
 refine Jz Ja (G:=Nat×UInt64×List UInt8) 1 [] (fun g=>[(3,uv g.2.1),(4, .c (.s 0 0 g.2.2.length 1))]) (fun g=>[(0,true, .arr (Qr none g.2.2))])
  (fun g=>g.1+g.2.2.length≤10∧g.2.1.toNat<128 ^ (g.1+1)∧g.2.2++ab1 g.1 g.2.1=JH n) (fun g=>g.1) ?_
 conv=>whnf
 refine⟨⟨(10,bK5 n,[]),⟨Nat.le_refl _, ?_,rfl⟩, ?_⟩, ?_⟩
 ·exact Nat.lt_of_lt_of_le (ay4 _) (by show 18446744073709551616≤128 ^ (10+1);decide)
 ·conv=>whnf
  exact cl
 rintro ⟨f,z,acc⟩ ⟨hf,hz,hR⟩ ρ1 t1 hρ1
 dsimp only at hf hz hR;conv=>whnf
 refine⟨fun hc=>?_,fun hc=>?_⟩
 ·have hge:128≤z.toNat:=by simp at hc;omega
  have hzl:=ay4 z;conv=>whnf
  refine⟨by decide,((z.toNat%128:Nat):Int),(Int.ofNat_tmod z.toNat 128).symm, ?_⟩;conv=>whnf
  refine⟨((128+z.toNat%128:Nat):Int),by rw[XC];omega, ?_⟩;conv=>whnf
  refine⟨((z.toUInt8|||128).toNat:Int),by rw[cz9,ao4];omega, ?_⟩;conv=>whnf
  refine Yf Ja (Qr none [z.toUInt8|||128]) rfl rfl ?_;conv=>whnf
  refine⟨⟨rfl,cl⟩, ?_⟩;conv=>whnf
  refine VE Ja (Qr none acc) [z.toUInt8|||128] (fun _=>rfl) rfl rfl rfl rfl ?_;conv=>whnf
  refine⟨⟨rfl,rfl,Nat.le_refl _,Nat.le_refl _,by show(acc.length+1)*2≤_;omega⟩, ?_⟩;have e1:=co5 z;conv=>whnf
  refine⟨by decide,((z>>>UInt64.ofNat 7).toNat:Int),by rw[e1,show(z.toNat:Int).tdiv 128=((z.toNat/128:Nat):Int)from(Int.ofNat_tdiv z.toNat 128).symm,XC];omega, ?_⟩;obtain⟨f,rfl⟩:∃j,f=j+1:=by
   cases f with
   |zero=>omega
   |succ j=>exact⟨j,rfl⟩
  refine⟨(f,z>>>UInt64.ofNat 7,acc++[z.toUInt8|||128]),⟨by simp;omega, ?_, ?_⟩,by show f<f+1;omega, ?_⟩
  ·show(z>>>UInt64.ofNat 7).toNat<128 ^ (f+1);rw[e1];rw[Nat.pow_succ]at hz;omega
  ·show(acc++[z.toUInt8|||128])++ab1 f (z>>>UInt64.ofNat 7)=JH n;rw[←hR];simp only[ab1];rw[if_pos hge];simp
  have e2:Qr none (acc.take acc.length++(([z.toUInt8|||128]:List UInt8).drop 0).take 1)=Qr none (acc++[z.toUInt8|||128]):=congrArg (Qr none) ab0;have e3:(acc++[z.toUInt8|||128]).length=acc.length+1:=by simp
  dsimp only;rw[←e2,e3];conv=>whnf
  refine⟨rfl, ?_⟩;conv=>whnf
  exact cl
 ·have hlt:¬128≤z.toNat:=by simp at hc;omega
  rw[bh9 z hlt f]at hR;conv=>whnf
  refine⟨_,ag7 _, ?_⟩;conv=>whnf
  refine Yf Ja (Qr none [z.toUInt8]) rfl rfl ?_;conv=>whnf
  refine⟨⟨rfl,cl⟩, ?_⟩;conv=>whnf
  refine VE Ja (Qr none acc) [z.toUInt8] (fun _=>rfl) rfl rfl rfl rfl ?_;conv=>whnf
  refine⟨⟨rfl,rfl,Nat.le_refl _,Nat.le_refl _,by show(acc.length+1)*2≤_;omega⟩, ?_⟩;have e4:(((acc.take acc.length++(([z.toUInt8]:List UInt8).drop 0).take 1)).drop 0).take (acc.length+1)=JH n:=by
   have a1:acc.take acc.length++(([z.toUInt8]:List UInt8).drop 0).take 1=acc++[z.toUInt8]:=ab0;rw[List.drop_zero,a1,←hR];exact List.take_of_length_le (by rw[List.length_append];exact Nat.le_refl _)
  rw[←e4];conv=>whnf
  refine Ju (fx:=none) (l:=acc.take acc.length++(([z.toUInt8]:List UInt8).drop 0).take 1) Ja rfl rfl rfl rfl rfl rfl (by rw[ab0];show 0+(acc.length+1)≤(acc++[z.toUInt8]).length;simp) ?_;conv=>whnf
  exact cl
theorem cA0(s:List UInt8)(hl:s.length≤140737488355328):Triple Tryz.prog 186 [YC s] [] 0 (YC (VK s)) []:=by
 refine Jc Ja Tryz.func186 rfl Tryz.call186 rfl ?_;intro ρ w hH;conv=>whnf
 refine Jb (aM5 (s.length:Int) ⟨by omega,by omega⟩) rfl rfl ?_;conv=>whnf
 refine cs ?_;conv=>whnf
 refine Yq (l:=JH (s.length:Int)) (l':=s) rfl rfl rfl (by have:=Qz (s.length:Int);omega) ?_;conv=>whnf
 exact cl
theorem aP8(x:UInt64)(k:Nat)(h0:0<k)(hk:k<64):Triple Tryz.prog 189 [uv x,iv .u64 (k:Int)] [] 0 (uv (aC8 x k)) []:=by
 refine Jc Ja Tryz.func189 rfl Tryz.call189 rfl ?_;intro ρ w hH;conv=>whnf
 refine⟨by omega,_,ag6 _ k hk, ?_⟩;conv=>whnf
 refine⟨((64-k:Nat):Int),by rw[XC];omega, ?_⟩;conv=>whnf
 refine⟨by omega,_,Km _ (64-k) (by omega), ?_⟩;conv=>whnf
 refine⟨_,aZ3 _ _, ?_⟩;conv=>whnf
 exact cl
abbrev bf8(m:Mix):List SC:=[.v (.int .u64 (m.a.toNat:Int)), .v (.int .u64 (m.b.toNat:Int)), .v (.int .u64 (m.c.toNat:Int)), .v (.int .u64 (m.d.toNat:Int))]
theorem bv8(m:Mix):Triple Tryz.prog 187 [.agg (bf8 m)] [] 0 (.agg (bf8 (al8 m))) []:=by
 obtain⟨a,b,c,d⟩:=m;obtain⟨d1,hd1⟩:∃x,x=aC8 (d^^^(a+b)) 32:=⟨_,rfl⟩;obtain⟨b1,hb1⟩:∃x,x=aC8 (b^^^(c+d1)) 40:=⟨_,rfl⟩;obtain⟨d2,hd2⟩:∃x,x=aC8 (d1^^^(a+b+b1)) 48:=⟨_,rfl⟩;obtain⟨b2,hb2⟩:∃x,x=aC8 (b1^^^(c+d1+d2)) 1:=⟨_,rfl⟩;have hmix:al8 ⟨a,b,c,d⟩=⟨a+b+b1,b2,c+d1+d2,d2⟩:=by rw[hb2,hd2,hb1,hd1];rfl
 rw[hmix];refine Jc Ja Tryz.func187 rfl Tryz.call187 rfl ?_;intro ρ w hH;conv=>whnf
 refine⟨_,GB _ _, ?_⟩;conv=>whnf
 refine⟨_,Uw _ _, ?_⟩;conv=>whnf
 refine Jb (aP8 (d^^^(a+b)) 32 (by decide) (by decide)) rfl rfl ?_;rw[←hd1];conv=>whnf
 refine cs ?_;conv=>whnf
 refine⟨_,GB _ _, ?_⟩;conv=>whnf
 refine⟨_,Uw _ _, ?_⟩;conv=>whnf
 refine Jb (aP8 (b^^^(c+d1)) 40 (by decide) (by decide)) rfl rfl ?_;rw[←hb1];conv=>whnf
 refine cs ?_;conv=>whnf
 refine⟨_,GB _ _, ?_⟩;conv=>whnf
 refine⟨_,Uw _ _, ?_⟩;conv=>whnf
 refine Jb (aP8 (d1^^^((a+b)+b1)) 48 (by decide) (by decide)) rfl rfl ?_;rw[←hd2];conv=>whnf
 refine cs ?_;conv=>whnf
 refine⟨_,GB _ _, ?_⟩;conv=>whnf
 refine⟨_,Uw _ _, ?_⟩;conv=>whnf
 refine Jb (aP8 (b1^^^((c+d1)+d2)) 1 (by decide) (by decide)) rfl rfl ?_;rw[←hb2];conv=>whnf
 refine cs ?_;conv=>whnf
 exact cl
theorem ac3(m:Mix)(v:UInt64):Triple Tryz.prog 169 [.agg (bf8 m),uv v] [] 0 (.agg (bf8 (YV m v))) []:=by
 rw[show YV m v=al8 (al8 { m with a:=m.a^^^v })from rfl];refine Jc Ja Tryz.func169 rfl Tryz.call169 rfl ?_;intro ρ w hH;conv=>whnf
 refine⟨_,Uw _ _, ?_⟩;generalize hx:({ m with a:=m.a^^^v }:Mix)=x;have e1:m.a^^^v=x.a:=by rw[←hx]
 have e2:m.b=x.b:=by rw[←hx]
 have e3:m.c=x.c:=by rw[←hx]
 have e4:m.d=x.d:=by rw[←hx]
 rw[e1];dsimp only[bf8];rw[e2,e3,e4];conv=>whnf
 refine Jb (bv8 x) rfl rfl ?_;conv=>whnf
 refine cs ?_;generalize al8 x=y;conv=>whnf
 refine Jb (bv8 y) rfl rfl ?_;conv=>whnf
 refine cs ?_;generalize al8 y=z;conv=>whnf
 exact cl
theorem cb8(tag:Int)(ht:0≤tag∧tag≤1000)(ps:List (List UInt8))(hp:at9 ps) :
 Triple Tryz.prog 168 [iv .i64 tag, .c (.s 0 0 ps.length 1)] [(0,false, .arr (Va ps))] 1 (YC (Gt tag ps)) []:=by
 have hps:=hp.1;have hlen:=aD1 (tag:=tag) hp;have hpre:∀i,i≤ps.length→(JH tag++JH (ps.length:Int)++((ps.take i).map VK).flatten).length≤1001100000:=by
  intro i hi;have h1:=Qz tag;have h2:=Qz (ps.length:Int);have h3:=aD0 (ps.take i) (fun p hp'=>hp.2 p (List.mem_of_mem_take hp'));rw[List.length_append,List.length_append];rw[List.length_take]at h3;have:min i ps.length*1000011≤1000*1000011:=Nat.mul_le_mul (by omega) (Nat.le_refl _);omega
 refine Jc Ja Tryz.func168 rfl Tryz.call168 rfl ?_;intro ρ w hH;conv=>whnf
 refine Jb (aM5 tag ⟨by omega,by omega⟩) rfl rfl ?_;conv=>whnf
 refine cs ?_;conv=>whnf
 refine Jb (aM5 (ps.length:Int) ⟨by omega,by omega⟩) rfl rfl ?_;conv=>whnf
 refine cs ?_;conv=>whnf
 refine Yq (l:=JH tag) (l':=JH (ps.length:Int)) rfl rfl rfl (by have:=Qz tag;have:=Qz (ps.length:Int);omega) ?_;conv=>whnf
 refine Jz Ja (G:=Nat) 0 [] (fun i=>[(6,iv .i64 i),(5,YC (JH tag++JH (ps.length:Int)++((ps.take i).map VK).flatten))]) (fun _=>[]) (fun i=>i≤ps.length) (fun i=>ps.length-i) ?_;conv=>whnf
 refine⟨⟨0,Nat.zero_le _, ?_⟩, ?_⟩
 ·dsimp only;rw[show JH tag++JH (ps.length:Int)++((ps.take 0).map VK).flatten=JH tag++JH (ps.length:Int)from by simp];conv=>whnf
  exact cl
 intro i hi ρ1 t1 hρ1;have hi:i≤ps.length:=hi;conv=>whnf
 refine⟨fun hc=>?_,fun hc=>?_⟩
 ·have h:i<ps.length:=by have:=of_decide_eq_true hc;omega
  have hpi:=hpre i hi;have hst:JH tag++JH (ps.length:Int)++((ps.take (i+1)).map VK).flatten=(JH tag++JH (ps.length:Int)++((ps.take i).map VK).flatten)++VK ps[i]:=by
   rw[bi0 h,←List.append_assoc]
  have hpl:=hp.2 ps[i] (List.getElem_mem h);have htl:=GY ps[i];generalize JH tag++JH (ps.length:Int)++((ps.take i).map VK).flatten=pr at hst hpi ⊢;conv=>whnf
  refine⟨i,rfl,h, ?_⟩;conv=>whnf
  refine⟨h, ?_⟩;conv=>whnf
  refine Jb (cA0 ps[i] (by omega)) rfl rfl ?_;generalize VK ps[i]=y at hst htl ⊢;conv=>whnf
  refine cs ?_;conv=>whnf
  refine Yq (l:=pr) (l':=y) rfl rfl rfl (by omega) ?_;conv=>whnf
  refine⟨_,wO, ?_⟩;refine⟨i+1,h,by show ps.length-(i+1)<ps.length-i;omega, ?_⟩;dsimp only;rw[hst];conv=>whnf
  refine⟨rfl, ?_⟩;conv=>whnf
  exact cl
 ·have hie:i=ps.length:=by have:=of_decide_eq_false hc;omega
  subst hie;rw[List.take_length];conv=>whnf
  exact cl
end Go.Proofs
