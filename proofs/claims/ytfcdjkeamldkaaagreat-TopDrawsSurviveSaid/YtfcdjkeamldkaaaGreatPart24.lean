/-
  A part of the proof that a law answers true: lemmas of a symbolic walk, plain functions, or contracts of the functions walked (QJ, QK, QL, QM, QN, QO, QP, QQ, QR). Conditions: none.
-/
import Derived.Test.YtfcdjkeamldkaaaGreatPart23
set_option maxRecDepth 100000
set_option linter.unusedVariables false
set_option linter.unusedSimpArgs false
namespace Go.Proofs
open Go.Sx

theorem zero_sealed:sealedF 2 zero128 22=false:=by decide +kernel
theorem zero_base (i:Nat):isBaseF zero128 i=false:=by
 have:¬ subL zero128 0 8=magicL:=by decide +kernel
 simp [isBaseF,this]
theorem base0_is:isBaseF base0.l 1=true:=by decide +kernel
theorem base0_first:(readB base0.l).first=1:=by decide +kernel
theorem base0_gen:(readB base0.l).gen=1:=by decide +kernel
theorem base0_dropped:(readB base0.l).dropped=0:=by decide +kernel
theorem base0_session:(readB base0.l).session=1:=by decide +kernel
theorem base0_link:(readB base0.l).link=link0:=by decide +kernel

theorem base0_read:readB base0.l=b0:=by
 have h:∀ b:Bs,b.gen=1 → b.first=1 → b.dropped=0 → b.session=1 → b.link=link0 → b=b0:=by
  rintro ⟨_,_,_,_,_⟩ rfl rfl rfl rfl rfl; rfl
 exact h _ base0_gen base0_first base0_dropped base0_session base0_link

theorem newDk_at (n i:Nat):atD (newDk n) i=zero128:=by
 unfold atD newDk
 rw [List.getD_eq_getElem?_getD,List.getElem?_replicate]
 split <;> rfl

theorem newDk_surv (n:Nat):∀ i,survF (newDk n) i=Sv0
 | 0=>rfl
 | i+1=>by
  show survStep (atD (newDk n) i) i (survF (newDk n) i)=_
  rw [newDk_at,newDk_surv n i]
  unfold survStep
  rw [zero_base,zero_sealed]
  split <;> rfl

theorem newDk_great (n:Nat):∀ i,greatF (newDk n) i=0
 | 0=>rfl
 | i+1=>by
  simp only [greatF,newDk_at,zero_base,newDk_great n i]
  rfl

theorem fmtD_at (n i:Nat) (hn:2≤n):atD (fmtD n) i=if i=1 then base0.l else zero128:=by
 unfold atD fmtD syncF
 rw [List.getD_eq_getElem?_getD,List.getElem?_map,setD_get]
 unfold newDk
 rw [List.getElem?_replicate]
 by_cases h:i < n
 ·rw [if_pos h]
  by_cases h1:i=1
  ·subst h1; rfl
  ·simp only [Option.map_some,if_neg h1]; rfl
 ·rw [if_neg h,if_neg (by omega)]; rfl

theorem fmtD_surv (n:Nat) (hn:2≤n):∀ i,survF (fmtD n) i=if i≤1 then Sv0 else (b0,true,1)
 | 0=>rfl
 | i+1=>by
  show survStep (atD (fmtD n) i) i (survF (fmtD n) i)=_
  rw [fmtD_at n i hn,fmtD_surv n hn i]
  by_cases h0:i=0
  ·subst h0
   simp [survStep,zero_base]
  ·by_cases h1:i=1
   ·subst h1
    simp only [survStep,if_neg (show ¬ 2≤1 by decide),if_pos,base0_is,base0_read,Nat.le_refl,ite_true]
    rfl
   ·rw [if_neg h1,if_neg (by omega),if_neg (by omega)]
    simp [survStep,show 2≤i by omega,zero_sealed]

theorem fmtD_great (n:Nat) (hn:2≤n):greatF (fmtD n) 2=1:=by
 simp only [greatF,fmtD_at n _ hn,zero_base]
 simp [base0_is,base0_gen,zero_base]

theorem b0_first:b0.first.toNat=1:=rfl

theorem fmtD_open (n:Nat) (hn:6≤n):openG (fmtD n) b0=[]:=by
 unfold openG
 rw [fmtD_length,b0_first]
 obtain ⟨m,hm⟩:∃ m,n - 2=m+1:=⟨n - 3,by omega⟩
 rw [hm]
 have h1:1 % (m+1)=1:=Nat.mod_eq_of_lt (by omega)
 have hz:(getF (subL zero128 0 8)).toNat=0:=by decide +kernel
 have hbad:badF zero128 ⟨1,b0.link,[],false,[]⟩=true:=by simp [badF,hz]
 show (if badF (atD (fmtD n) (2+1 % (n - 2))) _ then _ else _:Fo).recs=[]
 rw [hm,h1,fmtD_at n _ (by omega),if_neg (show ¬ 2+1=1 by decide),if_pos hbad]

theorem fmtD_xl (n:Nat) (hn:2≤n):xlOf (fmtD n) 1=⟨1,2,1,0,link0⟩:=by
 unfold xlOf
 rw [fmtD_at n 1 hn,if_pos rfl,base0_first,base0_dropped,base0_link]; rfl

theorem fmtD_xrecs (n:Nat) (hn:6≤n):xrecs (fmtD n) ⟨1,2,1,0,link0⟩=[]:=by
 unfold xrecs
 rw [fmtD_length]
 obtain ⟨m,hm⟩:∃ m,n - 2=m+1:=⟨n - 3,by omega⟩
 rw [hm]
 have h1:(1+0) % (m+1)=1:=Nat.mod_eq_of_lt (by omega)
 have hbad:xbadF zero128 (1+0) ⟨link0,[],0,[]⟩=true:=by simp [xbadF,zero_sealed]
 show (if xbadF (atD (fmtD n) (2+(1+0) % (n - 2))) _ _ then _ else _:Xo).recs=[]
 rw [hm,h1,fmtD_at n _ (by omega),if_neg (show ¬ 2+1=1 by decide),if_pos hbad]

end Go.Proofs

namespace Go.Proofs
open Go.Sx

structure Kw where
 D:Dk
 q:Nat
 link:List UInt8
 ks:List Kp
 xs:List Xk
 w:Wt

def x0:Xl:=⟨1,2,1,0,link0⟩

def kwApp (n:Nat) (s:List UInt8) (g:Kw):Kw :=
 ⟨(apF n 2 s ⟨g.D,g.q,g.link⟩ (nfr s)).D,(apF n 2 s ⟨g.D,g.q,g.link⟩ (nfr s)).q,(apF n 2 s ⟨g.D,g.q,g.link⟩ (nfr s)).link,
  g.ks ++ [⟨s,(apF n 2 s ⟨g.D,g.q,g.link⟩ (nfr s)).q,(apF n 2 s ⟨g.D,g.q,g.link⟩ (nfr s)).link⟩],
  g.xs ++ [⟨s,nfr s,(apF n 2 s ⟨g.D,g.q,g.link⟩ (nfr s)).link⟩],scanN (apF n 2 s ⟨g.D,g.q,g.link⟩ (nfr s)).D g.w n⟩

def kwSync (n:Nat) (g:Kw):Kw:={ g with D:=syncF g.D,w:=scanN (syncF g.D) g.w n }

def kwStep (n:Nat) (committed:Int) (k:Nat) (s:List UInt8) (g:Kw):Kw :=
 if (k:Int)+1=committed then kwSync n (kwApp n s g) else kwApp n s g

def kw0 (n:Nat):Kw:=⟨fmtD n,1,link0,[],[],scanN (fmtD n) w00 n⟩

def kwN (n:Nat) (committed:Int) (l:List (List UInt8)):Nat → Kw
 | 0=>kw0 n
 | k+1=>kwStep n committed k (l.getD k []) (kwN n committed l k)

structure KwI (n m:Nat) (k:Nat) (g:Kw):Prop where
 len:g.D.length=n
 q:1≤g.q∧g.q - 1+m≤n - 2
 ends:endOf b0 g.ks=(g.q,g.link)
 xq:1+framesF g.xs g.xs.length=g.q
 xl:xlinkF x0 g.xs=g.link
 hlk:g.link.length=8
 nks:g.ks.length=k
 nxs:g.xs.length=k
 free:Free g.D n g.q m
 fr:∀ i,i≤g.xs.length → framesF g.xs i≤g.q

theorem Free.sync {D:Dk} {n q m:Nat}:Free (syncF D) n q m:=by
 intro j _ r hr
 unfold syncF at hr
 rw [List.getElem?_map] at hr
 cases h:D[2+(q+j) % (n - 2)]? with
 | none=>rw [h] at hr; cases hr
 | some r'=>rw [h] at hr; cases hr; rfl

theorem Free.less {D:Dk} {n q m m':Nat} (h:Free D n q m) (hm:m'≤m):Free D n q m':=fun j hj=>h j (by omega)

theorem KwI.app {n m k:Nat} {g:Kw} (h:KwI n m k g) (s:List UInt8) (hs:nfr s≤m):KwI n (m - nfr s) (k+1) (kwApp n s g):=by
 have hI:=apF_I (sess:=2) (s:=s) (a:=⟨g.D,g.q,g.link⟩) (q0:=g.q) (m:=m) (n:=n) ⟨h.len,rfl,h.hlk,h.free⟩ (by have:=h.q; omega) (nfr s) hs
 obtain ⟨i1,i2,i3,i4⟩:=hI
 have hq:=h.q
 have hx:=h.xq
 have hfr:=h.fr
 have hxl:(kwApp n s g).xs.length=g.xs.length+1:=by simp [kwApp]
 have hq':(kwApp n s g).q=g.q+nfr s:=i2
 have hf1:∀ i,i≤g.xs.length → framesF (kwApp n s g).xs i=framesF g.xs i:=fun i hi=>by
  unfold framesF kwApp
  rw [List.take_append_of_le_length hi]
 have hf2:framesF (kwApp n s g).xs (g.xs.length+1)=framesF g.xs g.xs.length+nfr s:=by
  rw [framesF_succ _ (by rw [hxl]; omega),hf1 _ (Nat.le_refl _)]
  simp [kwApp]
 refine⟨i1,⟨by omega,by omega⟩, ?_, ?_, ?_,i3, ?_, ?_, ?_, ?_⟩
 ·simp [kwApp,endOf]
 ·rw [hxl,hf2,hq']; omega
 ·simp [kwApp,xlinkF]
 ·simp [kwApp,h.nks]
 ·rw [hxl,h.nxs]
 ·rw [hq']; exact i4
 ·intro i hi
  rw [hxl] at hi
  by_cases c:i≤g.xs.length
  ·rw [hf1 i c,hq']; have:=hfr i c; omega
  ·have:i=g.xs.length+1:=by omega
   rw [this,hf2,hq']; omega

theorem KwI.sync {n m k:Nat} {g:Kw} (h:KwI n m k g):KwI n m k (kwSync n g) :=
 ⟨by show (syncF g.D).length=n; rw [syncF_length]; exact h.len,h.q,h.ends,h.xq,h.xl,h.hlk,h.nks,h.nxs,Free.sync,h.fr⟩

theorem kw0_I {n m:Nat} (hn:6≤n) (hm:m≤n - 2):KwI n m 0 (kw0 n) :=
 ⟨fmtD_length n,⟨Nat.le_refl _,by show 1 - 1+m≤_; omega⟩,rfl,rfl,rfl,link0_len,rfl,rfl,Free.sync,fun i hi=>by
  have:i=0:=by simpa [kw0] using hi
  subst this; show 0≤1; omega⟩

end Go.Proofs

namespace Go.Proofs
open Go.Sx

def restN (l:List (List UInt8)) (k:Nat):Nat:=((l.drop k).map nfr).sum

theorem restN_step {l:List (List UInt8)} {k:Nat} (h:k < l.length):restN l k=nfr l[k]+restN l (k+1):=by
 unfold restN
 rw [List.drop_eq_getElem_cons h]; rfl

theorem kwN_I {n:Nat} (hn:6≤n) (committed:Int) {l:List (List UInt8)} (hl:restN l 0≤n - 2):∀ k,k≤l.length → KwI n (restN l k) k (kwN n committed l k)
 | 0,_=>kw0_I hn hl
 | k+1,h=>by
  have ih:=kwN_I hn committed hl k (by omega)
  have hr:=restN_step (l:=l) (k:=k) (by omega)
  have e:l.getD k []=l[k]'(by omega):=by rw [List.getD_eq_getElem?_getD,List.getElem?_eq_getElem (by omega)]; rfl
  show KwI n _ _ (kwStep n committed k (l.getD k []) (kwN n committed l k))
  rw [e]
  have ha:=ih.app (l[k]'(by omega)) (by omega)
  rw [show restN l k - nfr (l[k]'(by omega))=restN l (k+1) from by omega] at ha
  unfold kwStep
  split
  ·exact ha.sync
  ·exact ha

abbrev lgC (kd n:Nat) (b:Bs) (sess kr m:Nat):List SC:=[.p kd 0 0 0, .v (.int .i64 0), .v (.int .i64 n)] ++ bsC b ++ [.v (.int .u64 sess), .s kr 0 m 3]
abbrev xlD (kd n:Nat) (x:Xl) (kr m:Nat):List SC:=[.p kd 0 0 0, .v (.int .i64 0), .v (.int .i64 n), .v (.int .i64 x.gen), .v (.int .i64 x.sess), .v (.int .i64 x.first), .v (.int .i64 x.gone),strC x.link, .s kr 0 m 3]

abbrev kwH (n:Nat) (g:Kw):Heap :=
 [(3,true,dskC 2 n),(2,true,dkR 16 g.D),(16,true,dkB g.D),(6,true, .cells (lgC 3 n b0 2 17 g.ks.length)),(17,true, .arr (aKept g.ks)),
  (8,true,dskC 9 n),(9,true,dkR 18 g.D),(18,true,dkB g.D),(11,true, .cells (xlD 8 n x0 19 g.xs.length)),(19,true, .arr (aXk g.xs)),
  (13,true, .cells [.p 8 0 0 0, .p 11 0 0 0, .v (.int .i64 n), .m 14, .m 15, .v (.bool g.w.clash)]),(14,true,smO g.w.front),(15,true,smO g.w.back)]

theorem drawKept_t (l:List (List UInt8)) (hl:l.length≤1000) (hs:∀ s ∈ l,s.length≤6000) (committed:Int) (n:Nat) (hn:6≤n∧n≤65536) (hr:restN l 0≤n - 2) (keep:List Int) (hk:keep.length≤1000000) (hkb:∀ x ∈ keep,-9223372036854775808≤x∧x≤9223372036854775807)
  (D2:Dk) (hD2:crashD keep (kwN n committed l l.length).D=D2) (hg1:greatF D2 2=1) (hb1:isBaseF (atD D2 1) 1=true) (m0:Nat) (hs1:survF D2 n=(b0,true,m0)) (hm0:m0 < 4294967295) (hf1:(readB (atD D2 1)).first.toNat≤1000)
  (hol:(openG D2 b0).length≤100000) (c:Bool) (hc2:(scanN D2 (kwN n committed l l.length).w n).clash=c) (R:List (List UInt8)) (hR:(bif c then [] else (openG D2 b0).map (·.text))=R) :
  Triple Tryz.prog 8 [.c (.s 0 0 l.length 1),iv .i64 committed,iv .i64 n, .c (.s 1 0 keep.length 1)] [(0,false, .arr (aStr l)),(1,false, .arr (aInt keep))] 2 (.tup [.inl (.s 2 0 R.length 1), .inl (.v (.bool true)), .inl (.v (.bool c))]) [(2,true, .arr (aStr R))]:=by
 have hl0:=newDk_length n
 have hnd:=newDisk_t n ⟨by omega,hn.2⟩
 have hft:=format_t n hn (newDk_surv n n)
 rw [hl0] at hnd hft
 have hlf:=fmtD_length n
 have hop:=open_t (fmtD n) (by rw [hlf]; exact hn) (b0,true,1) (by rw [hlf,fmtD_surv n (by omega),if_neg (by omega)]) rfl (by decide) (by decide)
 dsimp only [dkH] at hop
 rw [hlf,fmtD_open n hn.1] at hop
 have hwt:=xwatch_t n hn (newDk_surv n n) (newDk_great n 2) (fmtD n) rfl (fmtD_great n (by omega)) (by rw [fmtD_at n 1 (by omega),if_pos rfl]; exact base0_is) 1 (by rw [fmtD_surv n (by omega),if_neg (by omega)]) (by decide)
  (by rw [fmtD_at n 1 (by omega),if_pos rfl,base0_first]; decide) x0 (fmtD_xl n (by omega)) [] (fmtD_xrecs n hn.1)
 refine triple_of tB_ok Tryz.func8 rfl Tryz.call8 rfl ?_
 intro ρ w hH
 conv=>whnf
 refine call_step hnd rfl rfl ?_
 conv=>whnf
 refine⟨(by repeat' (first | exact (aRow_ren rfl) | exact trivial | exact rfl | refine And.intro ?_ ?_ | ((conv=>whnf); first | exact (aRow_ren rfl) | exact trivial | exact rfl | refine And.intro ?_ ?_ | omega))),(by repeat' (first | exact (aRow_ren rfl) | exact trivial | exact rfl | refine And.intro ?_ ?_ | ((conv=>whnf); first | exact (aRow_ren rfl) | exact trivial | exact rfl | refine And.intro ?_ ?_ | omega))), ?_⟩
 conv=>whnf
 rw [← aRow_ren rfl]
 refine⟨fun hc=>absurd hc (by simp),fun hc=>?_⟩
 conv=>whnf
 refine call_step hft rfl rfl ?_
 conv=>whnf
 refine⟨(by repeat' (first | exact (aRow_ren rfl) | exact trivial | exact rfl | refine And.intro ?_ ?_ | ((conv=>whnf); first | exact (aRow_ren rfl) | exact trivial | exact rfl | refine And.intro ?_ ?_ | omega))),(by repeat' (first | exact (aRow_ren rfl) | exact trivial | exact rfl | refine And.intro ?_ ?_ | ((conv=>whnf); first | exact (aRow_ren rfl) | exact trivial | exact rfl | refine And.intro ?_ ?_ | omega))), ?_⟩
 conv=>whnf
 rw [← aRow_ren rfl]
 refine⟨fun hc=>absurd hc (by simp),fun hc=>?_⟩
 conv=>whnf
 refine call_step hop rfl rfl ?_
 conv=>whnf
 refine⟨(by repeat' (first | exact (aRow_ren rfl) | exact trivial | exact rfl | refine And.intro ?_ ?_ | ((conv=>whnf); first | exact (aRow_ren rfl) | exact trivial | exact rfl | refine And.intro ?_ ?_ | omega))),(by repeat' (first | exact (aRow_ren rfl) | exact trivial | exact rfl | refine And.intro ?_ ?_ | ((conv=>whnf); first | exact (aRow_ren rfl) | exact trivial | exact rfl | refine And.intro ?_ ?_ | omega))), ?_⟩
 conv=>whnf
 refine⟨fun hc=>absurd hc (by simp),fun hc=>?_⟩
 conv=>whnf
 refine call_step hwt rfl rfl ?_
 conv=>whnf
 refine⟨(by repeat' (first | exact (aRow_ren rfl) | exact trivial | exact rfl | refine And.intro ?_ ?_ | ((conv=>whnf); first | exact (aRow_ren rfl) | exact trivial | exact rfl | refine And.intro ?_ ?_ | omega))),(by repeat' (first | exact (aRow_ren rfl) | exact trivial | exact rfl | refine And.intro ?_ ?_ | ((conv=>whnf); first | exact (aRow_ren rfl) | exact trivial | exact rfl | refine And.intro ?_ ?_ | omega))), ?_⟩
 conv=>whnf
 rw [← aRow_ren rfl]
 refine loop_step tB_ok (G:=Nat × Kw) 4 [5,7,10,12] (fun g=>[(16,iv .i64 g.1)]) (fun g=>kwH n g.2) (fun g=>g.1≤l.length∧g.2=kwN n committed l g.1) (fun g=>l.length - g.1) ?_
 conv=>whnf
 refine⟨⟨(0,kw0 n),⟨Nat.zero_le _,rfl⟩, ?_⟩, ?_⟩
 ·conv=>whnf
  repeat' (first | exact (aRow_ren rfl) | exact trivial | exact rfl | refine And.intro ?_ ?_ | ((conv=>whnf); first | exact (aRow_ren rfl) | exact trivial | exact rfl | refine And.intro ?_ ?_ | omega))
 rintro ⟨k,g⟩ ⟨hk1,hg⟩ ρ1 t1 hρ1
 have hk1:k≤l.length:=hk1
 have hg:g=kwN n committed l k:=hg
 conv=>whnf
 refine⟨fun hc=>?_,fun hc=>?_⟩
 ·have h:k < l.length:=by have:=of_decide_eq_true hc; omega
  have hI:=kwN_I hn.1 committed hr k hk1
  rw [← hg] at hI
  have hrs:=restN_step h
  have hsl:=hs l[k] (List.getElem_mem h)
  have hst:kwN n committed l (k+1)=kwStep n committed k l[k] g:=by
   rw [hg]
   show kwStep n committed k (l.getD k []) _=_
   rw [List.getD_eq_getElem?_getD,List.getElem?_eq_getElem h]; rfl
  have hq:=hI.q
  have hxq:=hI.xq
  have hwa:=xshAppend_t g.D n hI.len hn x0 (by decide) g.xs (by rw [hI.nxs]; omega) (fun i hi=>by have:=hI.fr i hi; omega) g.q g.link hI.xq hI.xl hI.hlk (by omega) l[k] hsl (by omega) (hI.free.less (by omega)) g.w _ rfl _ rfl
  have hla:=append_t g.D (by rw [hI.len]; exact hn) b0 2 (by decide) g.ks (by rw [hI.nks]; omega) g.q g.link hI.ends hI.hlk (by show 1≤g.q; omega) (by omega) l[k] hsl (by rw [hI.len]; show g.q - 1+nfr l[k]≤n - 2; omega) (by rw [hI.len]; exact hI.free.less (by omega))
  rw [hI.len] at hla
  conv=>whnf
  refine⟨k,rfl,h, ?_⟩
  conv=>whnf
  refine⟨h, ?_⟩
  conv=>whnf
  refine call_step hwa rfl rfl ?_
  conv=>whnf
  refine⟨(by repeat' (first | exact (aRow_ren rfl) | exact trivial | exact rfl | refine And.intro ?_ ?_ | ((conv=>whnf); first | exact (aRow_ren rfl) | exact trivial | exact rfl | refine And.intro ?_ ?_ | omega))),(by repeat' (first | exact (aRow_ren rfl) | exact trivial | exact rfl | refine And.intro ?_ ?_ | ((conv=>whnf); first | exact (aRow_ren rfl) | exact trivial | exact rfl | refine And.intro ?_ ?_ | omega))), ?_⟩
  conv=>whnf
  rw [← aRow_ren rfl]
  refine⟨k,rfl,h, ?_⟩
  conv=>whnf
  refine⟨h, ?_⟩
  conv=>whnf
  refine call_step hla rfl rfl ?_
  conv=>whnf
  refine⟨(by repeat' (first | exact (aRow_ren rfl) | exact trivial | exact rfl | refine And.intro ?_ ?_ | ((conv=>whnf); first | exact (aRow_ren rfl) | exact trivial | exact rfl | refine And.intro ?_ ?_ | omega))),(by repeat' (first | exact (aRow_ren rfl) | exact trivial | exact rfl | refine And.intro ?_ ?_ | ((conv=>whnf); first | exact (aRow_ren rfl) | exact trivial | exact rfl | refine And.intro ?_ ?_ | omega))), ?_⟩
  conv=>whnf
  rw [← aRow_ren rfl]
  refine⟨fun hc=>absurd hc (by simp),fun hc=>?_⟩
  conv=>whnf
  refine⟨(k:Int)+1,by dsimp only; exact wrapId ⟨by omega,by omega⟩, ?_⟩
  conv=>whnf
  have ha:kwApp n l[k] g=⟨(apF n 2 l[k] ⟨g.D,g.q,g.link⟩ (nfr l[k])).D,(apF n 2 l[k] ⟨g.D,g.q,g.link⟩ (nfr l[k])).q,(apF n 2 l[k] ⟨g.D,g.q,g.link⟩ (nfr l[k])).link,
   g.ks ++ [⟨l[k],(apF n 2 l[k] ⟨g.D,g.q,g.link⟩ (nfr l[k])).q,(apF n 2 l[k] ⟨g.D,g.q,g.link⟩ (nfr l[k])).link⟩],
   g.xs ++ [⟨l[k],nfr l[k],(apF n 2 l[k] ⟨g.D,g.q,g.link⟩ (nfr l[k])).link⟩],scanN (apF n 2 l[k] ⟨g.D,g.q,g.link⟩ (nfr l[k])).D g.w n⟩:=rfl
  by_cases hcm:(k:Int)+1=committed
  ·have hcb:(((k:Int)+1) == committed)=true:=by rw [hcm]; exact beq_self_eq_true _
   have hAl:(kwApp n l[k] g).D.length=n:=(hI.app l[k] (by omega)).len
   have hwc:=xshCommit_t (kwApp n l[k] g).D n hAl hn x0 (kwApp n l[k] g).xs (kwApp n l[k] g).w
   have hlc:=logCommit_t (kwApp n l[k] g).D (by omega) b0 2 (kwApp n l[k] g).ks
   rw [hAl] at hlc
   have e3:g.ks.length+1=(kwApp n l[k] g).ks.length:=by simp [kwApp]
   refine⟨fun hc=>?_,fun hc=>absurd (show (((k:Int)+1) == committed)=false from hc) (by rw [hcb]; decide)⟩
   conv=>whnf
   refine call_step hwc rfl rfl ?_
   conv=>whnf
   refine⟨(by repeat' (first | exact (aRow_ren rfl) | exact trivial | exact rfl | refine And.intro ?_ ?_ | ((conv=>whnf); first | exact (aRow_ren rfl) | exact trivial | exact rfl | refine And.intro ?_ ?_ | omega))),(by repeat' (first | exact (aRow_ren rfl) | exact trivial | exact rfl | refine And.intro ?_ ?_ | ((conv=>whnf); first | exact (aRow_ren rfl) | exact trivial | exact rfl | refine And.intro ?_ ?_ | omega))), ?_⟩
   conv=>whnf
   rw [← aRow_ren rfl]
   rw [e3]
   refine call_step hlc rfl rfl ?_
   conv=>whnf
   refine⟨(by repeat' (first | exact (aRow_ren rfl) | exact trivial | exact rfl | refine And.intro ?_ ?_ | ((conv=>whnf); first | exact (aRow_ren rfl) | exact trivial | exact rfl | refine And.intro ?_ ?_ | omega))),(by repeat' (first | exact (aRow_ren rfl) | exact trivial | exact rfl | refine And.intro ?_ ?_ | ((conv=>whnf); first | exact (aRow_ren rfl) | exact trivial | exact rfl | refine And.intro ?_ ?_ | omega))), ?_⟩
   conv=>whnf
   rw [← aRow_ren rfl]
   refine⟨fun hc=>absurd hc (by simp),fun hc=>?_⟩
   conv=>whnf
   refine⟨_,wrapId ⟨by omega,by omega⟩, ?_⟩
   refine⟨(k+1,kwSync n (kwApp n l[k] g)),⟨h,by rw [hst]; unfold kwStep; rw [if_pos hcm]⟩,by show l.length - (k+1) < l.length - k; omega, ?_⟩
   conv=>whnf
   refine⟨rfl, ?_⟩
   conv=>whnf
   repeat' (first | exact (aRow_ren rfl) | exact trivial | exact rfl | refine And.intro ?_ ?_ | ((conv=>whnf); first | exact (aRow_ren rfl) | exact trivial | exact rfl | refine And.intro ?_ ?_ | omega))
  ·have hcb:(((k:Int)+1) == committed)=false:=beq_false_of_ne hcm
   refine⟨fun hc=>absurd (show (((k:Int)+1) == committed)=true from hc) (by rw [hcb]; decide),fun hc=>?_⟩
   conv=>whnf
   refine⟨_,wrapId ⟨by omega,by omega⟩, ?_⟩
   refine⟨(k+1,kwApp n l[k] g),⟨h,by rw [hst]; unfold kwStep; rw [if_neg hcm]⟩,by show l.length - (k+1) < l.length - k; omega, ?_⟩
   have e3:g.ks.length+1=(kwApp n l[k] g).ks.length:=by simp [kwApp]
   rw [ha] at e3 ⊢
   conv=>whnf
   refine⟨rfl, ?_⟩
   conv=>whnf
   repeat' (first | exact (aRow_ren rfl) | exact e3 | exact trivial | exact rfl | refine And.intro ?_ ?_ | ((conv=>whnf); first | exact (aRow_ren rfl) | exact e3 | exact trivial | exact rfl | refine And.intro ?_ ?_ | omega))
 ·have hke:k=l.length:=by have:=of_decide_eq_false hc; omega
  subst hke
  rw [← hg] at hD2 hc2
  have hI:=kwN_I hn.1 committed hr l.length (Nat.le_refl _)
  rw [← hg] at hI
  have hcx:=xshCrash_t n hn g.D hI.len keep hk hkb D2 hD2 hg1 hb1 m0 (by rw [hs1]) hm0 hf1 g.w
  rw [hc2] at hcx
  have hcp:=crash_t g.D keep (by rw [hI.len]; omega) hk hkb
  have hl2:D2.length=n:=by rw [← hD2,crashD_length,hI.len]
  rw [hI.len,hD2,hl2] at hcp
  conv=>whnf
  refine call_step hcx rfl rfl ?_
  conv=>whnf
  refine⟨(by repeat' (first | exact (aRow_ren rfl) | exact trivial | exact rfl | refine And.intro ?_ ?_ | ((conv=>whnf); first | exact (aRow_ren rfl) | exact trivial | exact rfl | refine And.intro ?_ ?_ | omega))),(by repeat' (first | exact (aRow_ren rfl) | exact trivial | exact rfl | refine And.intro ?_ ?_ | ((conv=>whnf); first | exact (aRow_ren rfl) | exact trivial | exact rfl | refine And.intro ?_ ?_ | omega))), ?_⟩
  conv=>whnf
  refine call_step hcp rfl rfl ?_
  conv=>whnf
  refine⟨(by repeat' (first | exact (aRow_ren rfl) | exact trivial | exact rfl | refine And.intro ?_ ?_ | ((conv=>whnf); first | exact (aRow_ren rfl) | exact trivial | exact rfl | refine And.intro ?_ ?_ | omega))),(by repeat' (first | exact (aRow_ren rfl) | exact trivial | exact rfl | refine And.intro ?_ ?_ | ((conv=>whnf); first | exact (aRow_ren rfl) | exact trivial | exact rfl | refine And.intro ?_ ?_ | omega))), ?_⟩
  conv=>whnf
  rw [← aRow_ren rfl]
  have hop2:=open_t D2 (by rw [hl2]; exact hn) (b0,true,m0) (by rw [hl2,hs1]) rfl hm0 (show (1:Nat)≤1000 by decide)
  dsimp only [dkH] at hop2
  rw [hl2] at hop2
  cases c with
  | true =>
   subst hR
   refine⟨fun hc=>?_,fun hc=>absurd hc (by simp)⟩
   conv=>whnf
   repeat' (first | exact (aRow_ren rfl) | exact trivial | exact rfl | refine And.intro ?_ ?_ | ((conv=>whnf); first | exact (aRow_ren rfl) | exact trivial | exact rfl | refine And.intro ?_ ?_ | omega))
  | false =>
   subst hR
   refine⟨fun hc=>absurd hc (by simp),fun hc=>?_⟩
   conv=>whnf
   refine call_step hop2 rfl rfl ?_
   conv=>whnf
   refine⟨(by repeat' (first | exact (aRow_ren rfl) | exact trivial | exact rfl | refine And.intro ?_ ?_ | ((conv=>whnf); first | exact (aRow_ren rfl) | exact trivial | exact rfl | refine And.intro ?_ ?_ | omega))),(by repeat' (first | exact (aRow_ren rfl) | exact trivial | exact rfl | refine And.intro ?_ ?_ | ((conv=>whnf); first | exact (aRow_ren rfl) | exact trivial | exact rfl | refine And.intro ?_ ?_ | omega))), ?_⟩
   conv=>whnf
   refine⟨fun hc=>absurd hc (by simp),fun hc=>?_⟩
   conv=>whnf
   have hrec:=logRecs_t D2 b0 (m0+1) (openG D2 b0) hol
   dsimp only [lgH] at hrec
   rw [hl2] at hrec
   have e5:((openG D2 b0).map (·.text)).length=(openG D2 b0).length:=List.length_map _
   refine call_step hrec rfl rfl ?_
   conv=>whnf
   refine⟨(by repeat' (first | exact (aRow_ren rfl) | exact trivial | exact rfl | refine And.intro ?_ ?_ | ((conv=>whnf); first | exact (aRow_ren rfl) | exact trivial | exact rfl | refine And.intro ?_ ?_ | omega))),(by repeat' (first | exact (aRow_ren rfl) | exact trivial | exact rfl | refine And.intro ?_ ?_ | ((conv=>whnf); first | exact (aRow_ren rfl) | exact trivial | exact rfl | refine And.intro ?_ ?_ | omega))), ?_⟩
   conv=>whnf
   repeat' (first | exact (aRow_ren rfl) | exact e5.symm | exact trivial | exact rfl | refine And.intro ?_ ?_ | ((conv=>whnf); first | exact (aRow_ren rfl) | exact e5.symm | exact trivial | exact rfl | refine And.intro ?_ ?_ | omega))

end Go.Proofs

namespace Go.Proofs
open Go.Sx

theorem crashF_get (keep:List Int):∀ (D:Dk) (m i:Nat) (r:Sct × Option Sct),D[i]? = some r → ∃ x:Int,(crashF keep m D)[i]? = some (match r.2 with | none=>r.1 | some q=>keptF r.1 q x)
 | [],_,_,_,h=>by cases h
 | (d,none) :: D,m,0,r,h=>by cases h; exact⟨0,rfl⟩
 | (d,some q) :: D,m,0,r,h=>by cases h; exact⟨keepAt keep m,rfl⟩
 | (d,none) :: D,m,i+1,r,h=>by
  obtain ⟨x,hx⟩:=crashF_get keep D m i r h
  exact⟨x,hx⟩
 | (d,some q) :: D,m,i+1,r,h=>by
  obtain ⟨x,hx⟩:=crashF_get keep D (m+1) i r h
  exact⟨x,hx⟩

theorem keptF_cases (d q:Sct) (x:Int):keptF d q x=d ∨ keptF d q x=q ∨ keptF d q x=tornF d q:=by
 unfold keptF
 split
 ·exact .inl rfl
 ·split
  ·exact .inr (.inl rfl)
  ·exact .inr (.inr rfl)

end Go.Proofs

namespace Go.Proofs
open Go.Sx

theorem get_set (n:Nat):∀ x:UInt64,n≤8 → (getF (setF n x)).toNat=x.toNat % 2 ^ (8 * n):=by
 induction n with
 | zero=>intro x _; simp [getF,setF,Nat.mod_one]
 | succ n ih =>
  intro x hn
  rw [setF,getF_snoc]
  have h:=ih (x >>> UInt64.ofNat 8) (by omega)
  generalize getF (setF n (x >>> UInt64.ofNat 8))=a at h ⊢
  have e:(UInt64.ofNat 8).toNat % 64=8:=by decide
  have hs:(x >>> UInt64.ofNat 8).toNat=x.toNat / 256:=by
   rw [UInt64.toNat_shiftRight,e,Nat.shiftRight_eq_div_pow]
  have h2:(a <<< UInt64.ofNat 8).toNat=2 ^ 8 * (a.toNat % 2 ^ 56):=by
   rw [UInt64.toNat_shiftLeft,e,Nat.shiftLeft_eq]; omega
  have hb:x.toUInt8.toNat=x.toNat % 256:=UInt64.toNat_toUInt8 x
  have hp:2 ^ (8 * n)≤2 ^ 56:=Nat.pow_le_pow_right (by decide) (by omega)
  have hlt:a.toNat < 2 ^ 56:=by rw [h]; exact Nat.lt_of_lt_of_le (Nat.mod_lt _ (Nat.two_pow_pos _)) hp
  rw [UInt64.toNat_or,h2,UInt8.toNat_toUInt64,← Nat.two_pow_add_eq_or_of_lt (by rw [hb]; omega),Nat.mod_eq_of_lt hlt,h,hs,hb,show 8 * (n+1)=8+8 * n from by omega,Nat.pow_add,Nat.mod_mul,show (2:Nat) ^ 8=256 from rfl]
  exact Nat.add_comm _ _

theorem subL_get (l:List UInt8) (a b i:Nat):(subL l a b)[i]? = if i < b - a then l[a+i]? else none:=by
 unfold subL
 rw [List.getElem?_take]
 split
 ·rw [List.getElem?_drop]
 ·rfl

theorem subL_of {l r:List UInt8} {a b:Nat} (hr:r.length=b - a) (h:∀ i,i < b - a → l[a+i]? = r[i]?):subL l a b=r:=by
 refine List.ext_getElem? fun i=>?_
 rw [subL_get]
 split
 ·rename_i hi; exact h i hi
 ·rename_i hi; rw [List.getElem?_eq_none (by omega)]

theorem sign_get {l d:List UInt8} (hl:l.length=128) (hd:d.length=16) {mark:Nat} (hm:mark≤112) (i:Nat) :
  (signF l mark d)[i]? = if 120≤i∧i < 128 then (d.drop 8)[i - 120]? else if mark≤i∧i < mark+8 then (d.take 8)[i - mark]? else l[i]?:=by
 have hB:(d.take 8).length=8:=by rw [List.length_take]; omega
 have hD:(d.drop 8).length=8:=by rw [List.length_drop]; omega
 have g0:=spl_length (xs:=l) (ys:=d.take 8) (o:=mark) (by omega)
 have g1:=spl_get (xs:=spl l mark (d.take 8)) (ys:=d.drop 8) (o:=120) (i:=i) (by omega)
 have g2:=spl_get (xs:=l) (ys:=d.take 8) (o:=mark) (i:=i) (by omega)
 unfold signF
 rw [g1,g2,hB,hD]

theorem sealS_sign (tag:Int) (l:List UInt8) (mark:Nat):sealF tag l mark=signF l mark (digestF tag l mark):=rfl

theorem digest_congr (tag:Int) {l l':List UInt8} {mark:Nat} (h:∀ i,i < mark ∨ (mark+8≤i∧i < 120) → l[i]? = l'[i]?):digestF tag l mark=digestF tag l' mark:=by
 unfold digestF
 have e1:l.take mark=l'.take mark:=List.ext_getElem? fun i=>by
  rw [List.getElem?_take,List.getElem?_take]
  split
  ·rename_i hi; exact h i (.inl hi)
  ·rfl
 have e2:(l.take 120).drop (mark+8)=(l'.take 120).drop (mark+8):=List.ext_getElem? fun i=>by
  rw [List.getElem?_drop,List.getElem?_drop,List.getElem?_take,List.getElem?_take]
  split
  ·rename_i hi; exact h _ (.inr ⟨by omega,hi⟩)
  ·rfl
 rw [e1,e2]

theorem seal_digest (tag:Int) {l:List UInt8} (hl:l.length=128) {mark:Nat} (hm:mark≤112):digestF tag (sealF tag l mark) mark=digestF tag l mark:=by
 refine digest_congr tag fun i hi=>?_
 rw [sealS_sign,sign_get hl (digestF_length _ _ _) hm,if_neg (by omega),if_neg (by omega)]

theorem seal_sealed (tag:Int) {l:List UInt8} (hl:l.length=128) {mark:Nat} (hm:mark≤112):sealedF tag (sealF tag l mark) mark=true:=by
 have hs:=sealF_length tag l hl mark hm
 have hd:=digestF_length tag l mark
 show (decide _ && decide _)=true
 rw [← sign_eq hs (digestF_length _ _ _) hm,seal_digest tag hl hm]
 refine decide_eq_true (List.ext_getElem? fun i=>?_)
 rw [sign_get hs hd hm,sealS_sign,sign_get hl hd hm]
 split
 ·rfl
 ·split
  ·rfl
  ·rfl

theorem frame6_get (number session:UInt64) (flags:UInt8) {link text:List UInt8} (hk:link.length=8) (ht:text.length≤90) (i:Nat) :
  (frame6 number session flags link text)[i]? = if 30≤i∧i < 30+text.length then text[i - 30]? else if 14≤i∧i < 22 then link[i - 14]? else
   if i=13 then some (UInt8.ofNat text.length) else if i=12 then some flags else if 8≤i∧i < 12 then (setF 4 session)[i - 8]? else if i < 8 then (setF 8 number)[i]? else zero128[i]?:=by
 have s8:=setF_length 8 number
 have s4:=setF_length 4 session
 have z:zero128.length=128:=rfl
 have l1:(spl zero128 0 (setF 8 number)).length=128:=spl_len z (by rw [s8]; decide)
 have l2:(spl (spl zero128 0 (setF 8 number)) 8 (setF 4 session)).length=128:=spl_len l1 (by rw [s4]; decide)
 have l3:(((spl (spl zero128 0 (setF 8 number)) 8 (setF 4 session)).set 12 flags).set 13 (UInt8.ofNat text.length)).length=128:=by rw [List.length_set,List.length_set,l2]
 have l4:=spl_len (ys:=link) (o:=14) l3 (by omega)
 unfold frame6
 rw [spl_get (by omega),spl_get (by omega),List.getElem?_set,List.getElem?_set,spl_get (by omega),spl_get (by omega),s8,s4,hk,List.length_set,l2]
 have e:∀ i,i - 0=i:=fun i=>Nat.sub_zero i
 by_cases c1:30≤i∧i < 30+text.length
 ·rw [if_pos c1,if_pos c1]
 rw [if_neg c1,if_neg c1]
 by_cases c2:14≤i∧i < 22
 ·rw [if_pos c2,if_pos c2]
 rw [if_neg c2,if_neg c2]
 by_cases c3:i=13
 ·rw [if_pos c3.symm,if_pos c3,if_pos (by decide)]
 rw [if_neg (Ne.symm c3),if_neg c3]
 by_cases c4:i=12
 ·rw [if_pos c4.symm,if_pos c4,if_pos (by decide)]
 rw [if_neg (Ne.symm c4),if_neg c4]
 by_cases c5:8≤i∧i < 12
 ·rw [if_pos c5,if_pos c5]
 rw [if_neg c5,if_neg c5]
 by_cases c6:i < 8
 ·rw [if_pos ⟨Nat.zero_le _,by omega⟩,if_pos c6,Nat.sub_zero]
 ·rw [if_neg (by omega),if_neg c6]

structure FrameIs (F:List UInt8) (number session:UInt64) (flags:UInt8) (link text:List UInt8):Prop where
 len:F.length=128
 num:subL F 0 8=setF 8 number
 ses:subL F 8 12=setF 4 session
 flg:byteF F 12=flags
 cnt:byteF F 13=UInt8.ofNat text.length
 lnk:subL F 14 22=link
 txt:subL F 30 (30+text.length)=text
 sld:sealedF 2 F 22=true

theorem frameF_is (number session:UInt64) (flags:UInt8) {link text:List UInt8} (hk:link.length=8) (ht:text.length≤90):FrameIs (frameF number session flags link text) number session flags link text:=by
 have hl:=frame6_length number session flags link text hk ht
 have g6:=frame6_get number session flags hk ht
 have hg:∀ i,i < 22 ∨ (30≤i∧i < 120) → (frameF number session flags link text)[i]? = (frame6 number session flags link text)[i]?:=fun i hi=>by
  unfold frameF
  rw [sealS_sign,sign_get hl (digestF_length _ _ _) (by decide),if_neg (by omega),if_neg (by omega)]
 refine⟨frameF_length _ _ _ _ _ hk ht, ?_, ?_, ?_, ?_, ?_, ?_,seal_sealed 2 hl (by decide)⟩
 ·refine subL_of (setF_length _ _) fun i hi=>?_
  rw [hg _ (by omega),g6,if_neg (by omega),if_neg (by omega),if_neg (by omega),if_neg (by omega),if_neg (by omega),if_pos (by omega),Nat.zero_add]
 ·refine subL_of (setF_length _ _) fun i hi=>?_
  rw [hg _ (by omega),g6,if_neg (by omega),if_neg (by omega),if_neg (by omega),if_neg (by omega),if_pos (by omega),Nat.add_sub_cancel_left]
 ·unfold byteF
  rw [List.getD_eq_getElem?_getD,hg _ (by omega),g6,if_neg (by omega),if_neg (by omega),if_neg (by omega),if_pos rfl]; rfl
 ·unfold byteF
  rw [List.getD_eq_getElem?_getD,hg _ (by omega),g6,if_neg (by omega),if_neg (by omega),if_pos rfl]; rfl
 ·refine subL_of (by rw [hk]) fun i hi=>?_
  rw [hg _ (by omega),g6,if_neg (by omega),if_pos (by omega),Nat.add_sub_cancel_left]
 ·refine subL_of (by omega) fun i hi=>?_
  rw [hg _ (by omega),g6,if_pos (by omega),Nat.add_sub_cancel_left]

end Go.Proofs

namespace Go.Proofs
open Go.Sx

def pieceAt:List (List UInt8) → Nat → UInt8 × List UInt8
 | [],_=>(0,[])
 | s :: r,j=>if j < nfr s then (flagF j (nfr s),chunkF s j) else pieceAt r (j - nfr s)

theorem pieceAt_len:∀ (l:List (List UInt8)) (j:Nat),(pieceAt l j).2.length≤90
 | [],_=>Nat.zero_le _
 | s :: r,j=>by
  unfold pieceAt
  split
  ·exact chunkF_len s j
  ·exact pieceAt_len r _

def sumN (l:List (List UInt8)) (i:Nat):Nat:=((l.take i).map nfr).sum

theorem sumN_zero (l:List (List UInt8)):sumN l 0=0:=rfl

theorem sumN_step {l:List (List UInt8)} {i:Nat} (h:i < l.length):sumN l (i+1)=sumN l i+nfr l[i]:=by
 unfold sumN
 rw [take_snoc h,List.map_append,List.sum_append]
 simp

theorem sumN_mono (l:List (List UInt8)) {i j:Nat} (h:i≤j):sumN l i≤sumN l j:=by
 induction j with
 | zero=>rw [Nat.le_zero.1 h]; exact Nat.le_refl _
 | succ j ih =>
  by_cases e:i=j+1
  ·rw [e]; exact Nat.le_refl _
  ·have:=ih (by omega)
   by_cases hj:j < l.length
   ·rw [sumN_step hj]; omega
   ·unfold sumN at this ⊢
    rw [List.take_of_length_le (by omega:l.length≤j+1)]
    rwa [List.take_of_length_le (by omega:l.length≤j)] at this

theorem sumN_rest (l:List (List UInt8)) (i:Nat):sumN l i+restN l i=sumN l l.length:=by
 unfold sumN restN
 rw [← List.sum_append,← List.map_append,List.take_append_drop,List.take_of_length_le (Nat.le_refl _)]

theorem pieceAt_at:∀ (l:List (List UInt8)) (i k:Nat) (h:i < l.length),k < nfr l[i] → pieceAt l (sumN l i+k)=(flagF k (nfr l[i]),chunkF l[i] k)
 | [],_,_,h,_=>absurd h (Nat.not_lt_zero _)
 | s :: r,0,k,_,hk=>by
  have hk:k < nfr s:=hk
  have e:sumN (s :: r) 0+k=k:=by rw [sumN_zero,Nat.zero_add]
  rw [e]
  show (if k < nfr s then _ else _)=_
  rw [if_pos hk]; rfl
 | s :: r,i+1,k,h,hk=>by
  have h':i < r.length:=by simpa using h
  have e:sumN (s :: r) (i+1)=nfr s+sumN r i:=by simp [sumN]
  rw [e]
  show (if nfr s+sumN r i+k < nfr s then _ else _)=_
  rw [if_neg (by omega),show nfr s+sumN r i+k - nfr s=sumN r i+k from by omega]
  exact pieceAt_at r i k h' hk

def lkF (l:List (List UInt8)):Nat → List UInt8
 | 0=>link0
 | j+1=>subL (frameS (j+1) 2 (pieceAt l j).1 (lkF l j) (pieceAt l j).2).l 22 30

def frF (l:List (List UInt8)) (j:Nat):Sct:=frameS (j+1) 2 (pieceAt l j).1 (lkF l j) (pieceAt l j).2

theorem lkF_succ (l:List (List UInt8)) (j:Nat):lkF l (j+1)=subL (frF l j).l 22 30:=rfl

theorem lkF_len (l:List (List UInt8)):∀ j,(lkF l j).length=8
 | 0=>link0_len
 | j+1=>by rw [lkF_succ,subL,List.length_take,List.length_drop,(frF l j).h]; rfl

theorem frF_is (l:List (List UInt8)) (j:Nat):FrameIs (frF l j).l (UInt64.ofNat (j+1)) (UInt64.ofNat 2) (pieceAt l j).1 (lkF l j) (pieceAt l j).2:=by
 unfold frF
 rw [frameS_l _ _ _ (lkF_len l j) (pieceAt_len l j)]
 exact frameF_is _ _ _ (lkF_len l j) (pieceAt_len l j)

def slotN (n j:Nat):Nat:=2+(j+1) % (n - 2)

theorem slotN_eq {n j:Nat} (hn:6≤n) (h:j < n - 2):slotN n j=if j+3=n then 2 else j+3:=by
 unfold slotN
 split
 ·have e:j+1=n - 2:=by omega
  rw [e,Nat.mod_self]
 ·rw [Nat.mod_eq_of_lt (by omega)]; omega

theorem slotN_lt {n j:Nat} (hn:6≤n) (h:j < n - 2):2≤slotN n j∧slotN n j < n:=by
 rw [slotN_eq hn h]; split <;> omega

theorem slotN_inj {n i j:Nat} (hn:6≤n) (hi:i < n - 2) (hj:j < n - 2) (h:slotN n i=slotN n j):i=j:=by
 rw [slotN_eq hn hi,slotN_eq hn hj] at h
 revert h
 split <;> split <;> intro h <;> omega

theorem slotN_sur {n i:Nat} (hn:6≤n) (h2:2≤i) (h:i < n):∃ j,j < n - 2∧slotN n j=i:=by
 by_cases e:i=2
 ·exact⟨n - 3,by omega,by rw [slotN_eq hn (by omega),if_pos (by omega),e]⟩
 ·exact⟨i - 3,by omega,by rw [slotN_eq hn (by omega),if_neg (by omega)]; omega⟩

structure LayI (n:Nat) (F:Nat → Sct) (D:Dk) (cnt dur:Nat):Prop where
 len:D.length=n
 le:dur≤cnt
 z:D[0]? = some (zSct,none)
 b:D[1]? = some (base0,none)
 at_:∀ j,j < n - 2 → D[slotN n j]? = some (if j < dur then (F j,none) else if j < cnt then (zSct,some (F j)) else (zSct,none))

theorem LayI.new {n:Nat} (hn:6≤n) (F:Nat → Sct):LayI n F (fmtD n) 0 0:=by
 have hg:∀ i,i < n → (fmtD n)[i]? = some (if i=1 then base0 else zSct,none):=fun i hi=>by
  unfold fmtD syncF
  rw [List.getElem?_map,setD_get]
  unfold newDk
  rw [List.getElem?_replicate,if_pos hi]
  by_cases h1:i=1
  ·subst h1; rfl
  ·simp only [Option.map_some,if_neg h1]; rfl
 refine⟨fmtD_length n,Nat.le_refl _,hg 0 (by omega),hg 1 (by omega),fun j hj=>?_⟩
 have:=slotN_lt hn hj
 rw [hg _ this.2,if_neg (by omega),if_neg (by omega),if_neg (by omega)]

theorem LayI.write {n:Nat} (hn:6≤n) {F:Nat → Sct} {D:Dk} {cnt dur:Nat} (h:LayI n F D cnt dur) (hc:cnt < n - 2):LayI n F (setD D (slotN n cnt) (F cnt)) (cnt+1) dur:=by
 have hs:=slotN_lt hn hc
 have hle:=h.le
 refine⟨by rw [setD_length]; exact h.len,by omega, ?_, ?_,fun j hj=>?_⟩
 ·rw [setD_get,h.z,Option.map_some,if_neg (by omega)]
 ·rw [setD_get,h.b,Option.map_some,if_neg (by omega)]
 ·rw [setD_get,h.at_ j hj,Option.map_some]
  by_cases e:j=cnt
  ·subst e
   rw [if_pos rfl,if_neg (by omega),if_neg (by omega),if_neg (by omega),if_pos (by omega)]
  ·rw [if_neg fun e'=>e (slotN_inj hn hj hc e')]
   by_cases c1:j < dur
   ·rw [if_pos c1,if_pos c1]
   ·rw [if_neg c1,if_neg c1]
    by_cases c2:j < cnt
    ·rw [if_pos c2,if_pos (by omega)]
    ·rw [if_neg c2,if_neg (by omega)]

theorem LayI.sync {n:Nat} {F:Nat → Sct} {D:Dk} {cnt dur:Nat} (h:LayI n F D cnt dur):LayI n F (syncF D) cnt cnt:=by
 have hle:=h.le
 have hg:∀ i r,D[i]? = some r → (syncF D)[i]? = some (seenF r,none):=fun i r hr=>by
  unfold syncF
  rw [List.getElem?_map,hr]; rfl
 refine⟨by rw [syncF_length]; exact h.len,Nat.le_refl _,hg _ _ h.z,hg _ _ h.b,fun j hj=>?_⟩
 rw [hg _ _ (h.at_ j hj)]
 by_cases c1:j < dur
 ·rw [if_pos c1,if_pos (by omega)]; rfl
 ·rw [if_neg c1]
  by_cases c2:j < cnt
  ·rw [if_pos c2,if_pos c2]; rfl
  ·rw [if_neg c2,if_neg c2]; rfl

structure KwL (n:Nat) (l:List (List UInt8)) (i dur:Nat) (g:Kw):Prop where
 lay:LayI n (frF l) g.D (sumN l i) dur
 q:g.q=sumN l i+1
 link:g.link=lkF l (sumN l i)
 w:∃ w',g.w=scanN g.D w' n

theorem apF_L {n:Nat} (hn:6≤n) {l:List (List UInt8)} (hl:sumN l l.length≤n - 2) {i dur:Nat} (hi:i < l.length) {g:Kw} (h:KwL n l i dur g):∀ k,k≤nfr l[i] →
  LayI n (frF l) (apF n 2 l[i] ⟨g.D,g.q,g.link⟩ k).D (sumN l i+k) dur∧(apF n 2 l[i] ⟨g.D,g.q,g.link⟩ k).q=sumN l i+k+1∧(apF n 2 l[i] ⟨g.D,g.q,g.link⟩ k).link=lkF l (sumN l i+k)
 | 0,_=>⟨h.lay,h.q,h.link⟩
 | k+1,hk=>by
  obtain ⟨i1,i2,i3⟩:=apF_L hn hl hi h k (by omega)
  have hp:=pieceAt_at l i k hi (by omega)
  have hm:=sumN_mono l (show i+1≤l.length by omega)
  rw [sumN_step hi] at hm
  have hf:frF l (sumN l i+k)=frameS (sumN l i+k+1) 2 (flagF k (nfr l[i])) (lkF l (sumN l i+k)) (chunkF l[i] k):=by
   unfold frF; rw [hp]
  show LayI n (frF l) (apStep n 2 l[i] k _).D _ _∧(apStep n 2 l[i] k _).q=_∧(apStep n 2 l[i] k _).link=_
  generalize apF n 2 l[i] ⟨g.D,g.q,g.link⟩ k=a at i1 i2 i3
  unfold apStep
  rw [i2,i3,← hf]
  exact⟨i1.write hn (by omega),by show _+1=_; omega,rfl⟩

theorem KwL.app {n:Nat} (hn:6≤n) {l:List (List UInt8)} (hl:sumN l l.length≤n - 2) {i dur:Nat} (hi:i < l.length) {g:Kw} (h:KwL n l i dur g):KwL n l (i+1) dur (kwApp n l[i] g):=by
 obtain ⟨i1,i2,i3⟩:=apF_L hn hl hi h (nfr l[i]) (Nat.le_refl _)
 rw [← sumN_step hi] at i1 i2 i3
 exact⟨i1,i2,i3,⟨g.w,rfl⟩⟩

theorem KwL.sync {n:Nat} {l:List (List UInt8)} {i dur:Nat} {g:Kw} (h:KwL n l i dur g):KwL n l i (sumN l i) (kwSync n g) :=
 ⟨h.lay.sync,h.q,h.link,⟨g.w,rfl⟩⟩

theorem kw0_L {n:Nat} (hn:6≤n) (l:List (List UInt8)):KwL n l 0 0 (kw0 n):=⟨LayI.new hn _,rfl,rfl,⟨w00,rfl⟩⟩

theorem kwN_L {n:Nat} (hn:6≤n) {l:List (List UInt8)} (hl:sumN l l.length≤n - 2) (committed:Int):∀ i,i≤l.length →
  ∃ dur,KwL n l i dur (kwN n committed l i)∧(1≤committed → committed≤i → sumN l committed.toNat≤dur)
 | 0,_=>⟨0,kw0_L hn l,fun h1 h2=>by have h2:committed≤0:=h2; omega⟩
 | i+1,h=>by
  obtain ⟨dur,i1,i2⟩:=kwN_L hn hl committed i (by omega)
  have e:l.getD i []=l[i]'(by omega):=by rw [List.getD_eq_getElem?_getD,List.getElem?_eq_getElem (by omega)]; rfl
  show ∃ dur,KwL n l (i+1) dur (kwStep n committed i (l.getD i []) (kwN n committed l i))∧_
  rw [e]
  have ha:=i1.app hn hl (by omega)
  unfold kwStep
  by_cases hc:(i:Int)+1=committed
  ·rw [if_pos hc]
   refine⟨_,ha.sync,fun _ _=>?_⟩
   have:committed.toNat=i+1:=by omega
   rw [this]; exact Nat.le_refl _
  ·rw [if_neg hc]
   refine⟨dur,ha,fun h1 h2=>i2 h1 (by omega)⟩

end Go.Proofs

namespace Go.Proofs
open Go.Sx

def Ext (w w':Wt):Prop:=w'.clash=false → w.clash=false∧∀ h t,lookSM w.front h=(t,true) → lookSM w'.front h=(t,true)

theorem Ext.refl (w:Wt):Ext w w:=fun h=>⟨h,fun _ _ h=>h⟩
theorem Ext.trans {a b c:Wt} (h:Ext a b) (h':Ext b c):Ext a c:=fun hc=>⟨(h (h' hc).1).1,fun k t ht=>(h' hc).2 k t ((h (h' hc).1).2 k t ht)⟩

theorem look_put_self (M:SMs) (k v:List UInt8):lookSM (putSM M k v) k=(v,true):=by
 induction M with
 | nil=>simp [putSM,lookSM]
 | cons p r ih =>
  unfold putSM
  split
  ·simp [lookSM]
  ·rename_i hne
   unfold lookSM at ih ⊢
   rw [List.find?_cons_of_neg (by simpa using hne)]
   exact ih

theorem look_put_ne (M:SMs) {k k':List UInt8} (v:List UInt8) (h:k ≠ k'):lookSM (putSM M k v) k'=lookSM M k':=by
 induction M with
 | nil=>simp [putSM,lookSM,h]
 | cons p r ih =>
  unfold putSM
  split
  ·rename_i he
   unfold lookSM
   rw [List.find?_cons_of_neg (by simpa using h),List.find?_cons_of_neg (by rw [he]; simpa using h)]
  ·unfold lookSM at ih ⊢
   by_cases hp:p.1=k'
   ·rw [List.find?_cons_of_pos (by simpa using hp),List.find?_cons_of_pos (by simpa using hp)]
   ·rw [List.find?_cons_of_neg (by simpa using hp),List.find?_cons_of_neg (by simpa using hp)]
    exact ih

theorem noteW_ext (w:Wt) (h1 h2 t:List UInt8):Ext w (noteW w h1 h2 t):=by
 intro hc
 have hc:(w.clash || (noteC w.front h1 t || noteC w.back h2 t))=false:=hc
 simp only [Bool.or_eq_false_iff] at hc
 refine⟨hc.1,fun k s hk=>?_⟩
 show lookSM (putSM w.front h1 t) k=_
 by_cases e:h1=k
 ·subst e
  have h3:=hc.2.1
  unfold noteC at h3
  rw [hk] at h3
  have:s=t:=by simpa using h3
  rw [look_put_self,this]
 ·rw [look_put_ne _ _ e]; exact hk

theorem noteW_has (w:Wt) (h1 h2 t:List UInt8):lookSM (noteW w h1 h2 t).front h1=(t,true):=look_put_self _ _ _

theorem scanSec_ext (i:Nat) (l:List UInt8) (w:Wt):Ext w (scanSec i l w):=by
 unfold scanSec
 split
 ·split
  ·exact noteW_ext _ _ _ _
  ·exact Ext.refl _
 ·split
  ·exact noteW_ext _ _ _ _
  ·exact Ext.refl _

theorem scanK_ext (i:Nat) (r:Sct × Option Sct) (w:Wt) {k m:Nat} (h:k≤m):Ext (scanK i r w k) (scanK i r w m):=by
 induction m with
 | zero=>rw [Nat.le_zero.1 h]; exact Ext.refl _
 | succ m ih =>
  by_cases e:k=m+1
  ·rw [e]; exact Ext.refl _
  ·exact (ih (by omega)).trans (scanSec_ext _ _ _)

theorem scanN_ext (D:Dk) (w:Wt) {i m:Nat} (h:i≤m):Ext (scanN D w i) (scanN D w m):=by
 induction m with
 | zero=>rw [Nat.le_zero.1 h]; exact Ext.refl _
 | succ m ih =>
  by_cases e:i=m+1
  ·rw [e]; exact Ext.refl _
  ·exact (ih (by omega)).trans (scanK_ext _ _ _ (Nat.zero_le _))

theorem scanN_has {D:Dk} {w:Wt} {i m k:Nat} (hi:i < m) (h2:2≤i) (hk:k < cntK (D.getD i (zSct,none))) (hs:sealedF 2 (sectK (D.getD i (zSct,none)) k).l 22=true) (hc:(scanN D w m).clash=false) :
  lookSM (scanN D w m).front (subL (sectK (D.getD i (zSct,none)) k).l 22 30)=(frameT (sectK (D.getD i (zSct,none)) k).l,true):=by
 have h1:=scanN_ext D w (show i+1≤m from hi) hc
 refine h1.2 _ _ ?_
 have h3:=scanK_ext i (D.getD i (zSct,none)) (scanN D w i) (show k+1≤cntK (D.getD i (zSct,none)) from hk) h1.1
 refine h3.2 _ _ ?_
 show lookSM (scanSec i _ (scanK i _ _ k)).front _=_
 unfold scanSec
 rw [if_neg (by omega),if_pos hs]
 exact noteW_has _ _ _ _

theorem frameT_digest {l l':List UInt8} (hl:l.length=128) (hl':l'.length=128) (h:frameT l=frameT l'):(∀ i,i < 22 ∨ (30≤i∧i < 120) → l[i]? = l'[i]?):=by
 have h:([102] ++ l.take 22) ++ (l.take 120).drop 30=([102] ++ l'.take 22) ++ (l'.take 120).drop 30:=h
 have ha:=List.append_inj h (by simp [hl,hl'])
 have hb:=List.append_inj ha.1 rfl
 intro i hi
 rcases hi with hi | hi
 ·have:=congrArg (fun x=>x[i]?) hb.2
  simpa [List.getElem?_take,hi] using this
 ·have:=congrArg (fun x=>x[i - 30]?) ha.2
  simpa [List.getElem?_drop,List.getElem?_take,show 30+(i - 30)=i by omega,hi.2] using this

theorem torn_same {f t:List UInt8} (hf:f.length=128) (ht:t.length=128) (hsf:sealedF 2 f 22=true) (hst:sealedF 2 t 22=true) (h:frameT t=frameT f):t=f:=by
 have hi:=frameT_digest ht hf h
 have hd:digestF 2 t 22=digestF 2 f 22:=digest_congr 2 hi
 have e1:signF f 22 (digestF 2 f 22)=f:=by
  have:=sign_eq hf (digestF_length 2 f 22) (mark:=22) (by decide)
  rw [show (decide _ && decide _)=true from hsf] at this
  exact of_decide_eq_true this
 have e2:signF t 22 (digestF 2 t 22)=t:=by
  have:=sign_eq ht (digestF_length 2 t 22) (mark:=22) (by decide)
  rw [show (decide _ && decide _)=true from hst] at this
  exact of_decide_eq_true this
 rw [← e1,← e2,hd]
 refine List.ext_getElem? fun i=>?_
 rw [sign_get ht (digestF_length 2 f 22) (by decide),sign_get hf (digestF_length 2 f 22) (by decide)]
 split
 ·rfl
 ·split
  ·rfl
  ·rename_i c1 c2
   by_cases c3:i < 128
   ·exact hi i (by omega)
   ·rw [List.getElem?_eq_none (by omega),List.getElem?_eq_none (by omega)]

end Go.Proofs

namespace Go.Proofs
open Go.Sx

theorem crash_at {keep:List Int} {D:Dk} {i:Nat} {r:Sct × Option Sct} (h:D[i]? = some r):∃ x:Int,atD (crashD keep D) i=(match r.2 with | none=>r.1 | some q=>keptF r.1 q x).l:=by
 obtain ⟨x,hx⟩:=crashF_get keep D 0 i r h
 refine⟨x, ?_⟩
 unfold atD crashD
 rw [List.getD_eq_getElem?_getD,List.getElem?_map,hx]; rfl

structure Left (n:Nat) (F:Nat → Sct) (D2:Dk) (cnt dur:Nat):Prop where
 len:D2.length=n
 le:dur≤cnt
 z:atD D2 0=zero128
 b:atD D2 1=base0.l
 at_:∀ j,j < n - 2 → (j < dur∧atD D2 (slotN n j)=(F j).l) ∨ (j < cnt∧(atD D2 (slotN n j)=zero128 ∨ atD D2 (slotN n j)=(F j).l ∨ atD D2 (slotN n j)=(tornF zSct (F j)).l)) ∨ (cnt≤j∧atD D2 (slotN n j)=zero128)

theorem left_of {n:Nat} {F:Nat → Sct} {D:Dk} {cnt dur:Nat} (h:LayI n F D cnt dur) (keep:List Int):Left n F (crashD keep D) cnt dur:=by
 refine⟨by rw [crashD_length]; exact h.len,h.le, ?_, ?_,fun j hj=>?_⟩
 ·obtain ⟨x,hx⟩:=crash_at (keep:=keep) h.z
  exact hx
 ·obtain ⟨x,hx⟩:=crash_at (keep:=keep) h.b
  exact hx
 ·obtain ⟨x,hx⟩:=crash_at (keep:=keep) (h.at_ j hj)
  by_cases c1:j < dur
  ·rw [if_pos c1] at hx
   exact .inl ⟨c1,hx⟩
  ·rw [if_neg c1] at hx
   by_cases c2:j < cnt
   ·rw [if_pos c2] at hx
    refine .inr (.inl ⟨c2, ?_⟩)
    rcases keptF_cases zSct (F j) x with e | e | e
    ·exact .inl (by rw [hx]; show (keptF _ _ _).l=_; rw [e]; rfl)
    ·exact .inr (.inl (by rw [hx]; show (keptF _ _ _).l=_; rw [e]))
    ·exact .inr (.inr (by rw [hx]; show (keptF _ _ _).l=_; rw [e]))
   ·rw [if_neg c2] at hx
    exact .inr (.inr ⟨by omega,hx⟩)

theorem torn_sub (d q:Sct) {a b:Nat} (h:b≤64):subL (tornF d q).l a b=subL q.l a b:=by
 refine List.ext_getElem? fun i=>?_
 rw [subL_get,subL_get]
 split
 ·show (q.l.take 64 ++ d.l.drop 64)[a+i]? = _
  rw [List.getElem?_append_left (by rw [List.length_take,q.h]; omega),List.getElem?_take,if_pos (by omega)]
 ·rfl

theorem ses2:(getF (setF 4 (UInt64.ofNat 2))).toNat=2:=by rw [get_set 4 _ (by decide)]; rfl

theorem left_ses {n:Nat} {l:List (List UInt8)} {D2:Dk} {cnt dur:Nat} (h:Left n (frF l) D2 cnt dur) {j:Nat} (hj:j < n - 2) (hs:sealedF 2 (atD D2 (slotN n j)) 22=true):(getF (subL (atD D2 (slotN n j)) 8 12)).toNat=2:=by
 have hz:∀ s:List UInt8,s=zero128 → sealedF 2 s 22=true → False:=fun s e h=>by rw [e,zero_sealed] at h; cases h
 have hf:(getF (subL (frF l j).l 8 12)).toNat=2:=by rw [(frF_is l j).ses,ses2]
 rcases h.at_ j hj with ⟨_,e⟩ | ⟨_,e | e | e⟩ | ⟨_,e⟩
 ·rw [e,hf]
 ·exact absurd hs fun h=>hz _ e h
 ·rw [e,hf]
 ·rw [e,torn_sub _ _ (by decide),hf]
 ·exact absurd hs fun h=>hz _ e h

theorem left_surv {n:Nat} (hn:6≤n) {l:List (List UInt8)} {D2:Dk} {cnt dur:Nat} (h:Left n (frF l) D2 cnt dur):∀ i,i≤n → 2≤i → ∃ m,m≤2∧survF D2 i=(b0,true,m)
 | 0,_,h2=>absurd h2 (by decide)
 | 1,_,h2=>absurd h2 (by decide)
 | 2,_,_=>by
  refine⟨1,by decide, ?_⟩
  show survStep (atD D2 1) 1 (survStep (atD D2 0) 0 (survF D2 0))=_
  rw [h.z,h.b]
  have e0:survStep zero128 0 (survF D2 0)=survF D2 0:=by
   unfold survStep
   rw [if_neg (by decide),zero_base]; rfl
  rw [e0]
  simp only [survStep,if_neg (show ¬ 2≤1 by decide),base0_is,base0_read,ite_true]
  rfl
 | i+3,hi,_=>by
  obtain ⟨m,hm,e⟩:=left_surv hn h (i+2) (by omega) (by omega)
  show ∃ m,m≤2∧survStep (atD D2 (i+2)) (i+2) (survF D2 (i+2))=_
  rw [e]
  unfold survStep
  rw [if_pos (by omega)]
  by_cases hs:sealedF 2 (atD D2 (i+2)) 22=true
  ·rw [if_pos hs]
   obtain ⟨j,hj,hji⟩:=slotN_sur hn (show 2≤i+2 by omega) (show i+2 < n by omega)
   have h2:(getF (subL (atD D2 (i+2)) 8 12)).toNat=2:=by rw [← hji]; exact left_ses h hj (by rw [hji]; exact hs)
   rw [h2]
   exact⟨max m 2,by omega,rfl⟩
  ·rw [if_neg hs]
   exact⟨m,hm,rfl⟩

theorem left_great {n:Nat} {F:Nat → Sct} {D2:Dk} {cnt dur:Nat} (h:Left n F D2 cnt dur):greatF D2 2=1:=by
 simp only [greatF,h.z,h.b,zero_base]
 simp [base0_is,base0_gen]

theorem zero_num:(getF (subL zero128 0 8)).toNat=0:=by decide +kernel

theorem left_clean {n:Nat} (hn:6≤n) {l:List (List UInt8)} {D:Dk} {cnt dur:Nat} (hD:LayI n (frF l) D cnt dur) (keep:List Int) {w w':Wt} (hw:w=scanN D w' n) (hc:(scanN (crashD keep D) w n).clash=false) {j:Nat} (hj:j < n - 2) :
  (j < cnt∧atD (crashD keep D) (slotN n j)=(frF l j).l) ∨ (dur≤j∧((getF (subL (atD (crashD keep D) (slotN n j)) 0 8)).toNat=0 ∨ sealedF 2 (atD (crashD keep D) (slotN n j)) 22=false)):=by
 have hL:=left_of hD keep
 have hle:=hD.le
 have hsl:=slotN_lt hn hj
 rcases Nat.lt_or_ge j dur with hjd | hjd
 ·rcases hL.at_ j hj with ⟨c,e⟩ | ⟨c,e⟩ | ⟨c,e⟩
  ·exact .inl ⟨by omega,e⟩
  ·obtain ⟨x,hx⟩:=crash_at (keep:=keep) (hD.at_ j hj)
   rw [if_pos hjd] at hx
   exact .inl ⟨by omega,hx⟩
  ·omega
 rcases hL.at_ j hj with ⟨c,e⟩ | ⟨c,e | e | e⟩ | ⟨c,e⟩
 ·exact .inl ⟨by omega,e⟩
 ·exact .inr ⟨hjd, .inl (by rw [e,zero_num])⟩
 ·exact .inl ⟨c,e⟩
 ·cases hs:sealedF 2 (atD (crashD keep D) (slotN n j)) 22 with
  | false=>exact .inr ⟨hjd, .inr rfl⟩
  | true =>
   have hF:=frF_is l j
   have hrow:=hD.at_ j hj
   rw [if_neg (by omega),if_pos c] at hrow
   have hrow':D.getD (slotN n j) (zSct,none)=(zSct,some (frF l j)):=by rw [List.getD_eq_getElem?_getD,hrow]; rfl
   have hx:=scanN_ext (crashD keep D) w (Nat.zero_le n) hc
   have hwc:(scanN D w' n).clash=false:=by rw [← hw]; exact hx.1
   have h1:=scanN_has (D:=D) (w:=w') (i:=slotN n j) (m:=n) (k:=1) hsl.2 hsl.1 (by rw [hrow']; exact (by decide:1 < 2)) (by rw [hrow']; exact hF.sld) hwc
   rw [hrow',← hw] at h1
   have h1:lookSM w.front (subL (frF l j).l 22 30)=(frameT (frF l j).l,true):=h1
   have h2:=hx.2 _ _ h1
   obtain ⟨r,hr⟩:∃ r,(crashD keep D)[slotN n j]? = some r:=by
    have:slotN n j < (crashD keep D).length:=by rw [hL.len]; exact hsl.2
    exact⟨_,List.getElem?_eq_getElem this⟩
   have hr2:r.2=none:=by
    unfold crashD at hr
    rw [List.getElem?_map] at hr
    cases hq:(crashF keep 0 D)[slotN n j]? with
    | none=>rw [hq] at hr; cases hr
    | some s=>rw [hq] at hr; cases hr; rfl
   have hr1:(crashD keep D).getD (slotN n j) (zSct,none)=r:=by rw [List.getD_eq_getElem?_getD,hr]; rfl
   have hat:atD (crashD keep D) (slotN n j)=r.1.l:=by
    unfold atD
    rw [hr1]; unfold seenF; rw [hr2]; rfl
   have h3:=scanN_has (D:=crashD keep D) (w:=w) (i:=slotN n j) (m:=n) (k:=0) hsl.2 hsl.1 (by rw [hr1]; unfold cntK; rw [hr2]; decide) (by rw [hr1]; show sealedF 2 r.1.l 22=true; rw [← hat]; exact hs) hc
   rw [hr1] at h3
   have h3:lookSM (scanN (crashD keep D) w n).front (subL r.1.l 22 30)=(frameT r.1.l,true):=h3
   rw [← hat,e,torn_sub _ _ (by decide),h2] at h3
   have h4:frameT (frF l j).l=frameT (tornF zSct (frF l j)).l:=(Prod.mk.inj h3).1
   rw [e] at hs
   exact .inl ⟨c,by rw [e]; exact torn_same hF.len (tornF zSct (frF l j)).h hF.sld hs h4.symm⟩
 ·exact .inr ⟨by omega, .inl (by rw [e,zero_num])⟩

end Go.Proofs

namespace Go.Proofs
open Go.Sx

theorem flag_begin (k m:Nat):decide (flagF k m &&& 1=1)=decide (k=0):=by
 unfold flagF
 by_cases h1:k=0
 ·by_cases h2:k+1=m
  ·rw [if_pos h1,if_pos h2,decide_eq_true h1]; decide
  ·rw [if_pos h1,if_neg h2,decide_eq_true h1]; decide
 ·by_cases h2:k+1=m
  ·rw [if_neg h1,if_pos h2,decide_eq_false h1]; decide
  ·rw [if_neg h1,if_neg h2,decide_eq_false h1]; decide

theorem flag_end (k m:Nat):flagF k m &&& 2=0 ↔ ¬ k+1=m:=by
 unfold flagF
 by_cases h1:k=0
 ·by_cases h2:k+1=m
  ·rw [if_pos h1,if_pos h2]; exact⟨fun h=>absurd h (by decide),fun h=>absurd h2 h⟩
  ·rw [if_pos h1,if_neg h2]; exact⟨fun _=>h2,fun _=>by decide⟩
 ·by_cases h2:k+1=m
  ·rw [if_neg h1,if_pos h2]; exact⟨fun h=>absurd h (by decide),fun h=>absurd h2 h⟩
  ·rw [if_neg h1,if_neg h2]; exact⟨fun _=>h2,fun _=>by decide⟩

theorem flag_le (k m:Nat):¬ 3 < (flagF k m).toNat:=by
 unfold flagF
 by_cases h1:k=0
 ·by_cases h2:k+1=m
  ·rw [if_pos h1,if_pos h2]; decide
  ·rw [if_pos h1,if_neg h2]; decide
 ·by_cases h2:k+1=m
  ·rw [if_neg h1,if_pos h2]; decide
  ·rw [if_neg h1,if_neg h2]; decide

theorem chunk_join {s:List UInt8} {k:Nat} (h:k < nfr s):s.take (k * 90) ++ chunkF s k=if k+1=nfr s then s else s.take ((k+1) * 90):=by
 have hc:=chunk_le h
 have e:s.take (k * 90)=(s.take (min s.length ((k+1) * 90))).take (k * 90):=by rw [List.take_take,Nat.min_eq_left hc]
 unfold chunkF
 rw [e,List.take_append_drop]
 split
 ·rename_i he
  rw [Nat.min_eq_left (by unfold nfr at he; omega),List.take_of_length_le (Nat.le_refl _)]
 ·rename_i he
  rw [Nat.min_eq_right (by unfold nfr at he h; omega)]

structure StI (l:List (List UInt8)) (i k:Nat) (g:Fo):Prop where
 q:g.q=sumN l i+k+1
 link:g.link=lkF l (sumN l i+k)
 ins:g.ins=decide (0 < k)
 text:0 < k → g.text=(l.getD i []).take (k * 90)
 recs:g.recs.map (·.text)=l.take i

theorem follow_law {n:Nat} (hn:6≤n∧n≤65536) {l:List (List UInt8)} (hl:sumN l l.length≤n - 2) {D2:Dk} {dur C:Nat} (hC:C≤l.length) (hdur:sumN l C≤dur)
  (hD:∀ j,j < n - 2 → (j < sumN l l.length∧atD D2 (slotN n j)=(frF l j).l) ∨ (dur≤j∧((getF (subL (atD D2 (slotN n j)) 0 8)).toNat=0 ∨ sealedF 2 (atD D2 (slotN n j)) 22=false))) :
  ∀ (f i k:Nat) (g:Fo),f+(sumN l i+k)=n - 2 → i≤l.length → (∀ h:i < l.length,k < nfr l[i]) → (i=l.length → k=0) → StI l i k g →
   ∃ r,C≤r∧r≤l.length∧(followF D2 n f g).recs.map (·.text)=l.take r:=by
 intro f
 induction f with
 | zero =>
  intro i k g hf hi hk hk0 hg
  refine⟨i, ?_,hi,hg.recs⟩
  by_cases h:i < l.length
  ·have h1:=hk h
   have h2:=sumN_mono l (show i+1≤l.length by omega)
   rw [sumN_step h] at h2
   omega
  ·omega
 | succ f ih =>
  intro i k g hf hi hk hk0 hg
  have hj:sumN l i+k < n - 2:=by omega
  have hsl:2+g.q % (n - 2)=slotN n (sumN l i+k):=by rw [hg.q]; rfl
  show ∃ r,C≤r∧r≤l.length∧(if badF (atD D2 (2+g.q % (n - 2))) g then g else followF D2 n f (nextF (atD D2 (2+g.q % (n - 2))) g)).recs.map (·.text)=l.take r
  rw [hsl]
  rcases hD _ hj with ⟨c,e⟩ | ⟨c,e⟩
  ·have hlt:i < l.length:=by
    refine Nat.lt_of_not_le fun hge=>?_
    have e1:i=l.length:=by omega
    rw [e1] at c; omega
   have hkl:=hk hlt
   have hp:=pieceAt_at l i k hlt hkl
   have hF:=frF_is l (sumN l i+k)
   rw [hp] at hF
   have hlk:lkF l (sumN l i+k+1)=subL (frF l (sumN l i+k)).l 22 30:=rfl
   rw [e]
   generalize (frF l (sumN l i+k)).l=s at hF hlk
   have hs2:=sumN_step hlt
   have hcl:=chunkF_len l[i] k
   have h13:(byteF s 13).toNat=(chunkF l[i] k).length:=by
    rw [hF.cnt,UInt8.toNat_ofNat_of_lt' (by show (chunkF l[i] k).length < 256; omega)]
   have h0:(getF (subL s 0 8)).toNat=g.q:=by
    rw [hF.num,get_set 8 _ (by decide),hg.q,UInt64.toNat_ofNat_of_lt' (by show sumN l i+k+1 < 18446744073709551616; omega)]
    omega
   have hbad:badF s g=false:=by
    unfold badF
    rw [decide_eq_true h0,decide_eq_true (hF.lnk.trans hg.link.symm),hF.sld,h13,hF.flg,decide_eq_false (by omega),decide_eq_false (flag_le k _),flag_begin,hg.ins]
    by_cases h:k=0
    ·subst h; rfl
    ·rw [decide_eq_true (by omega),decide_eq_false h]; rfl
   rw [if_neg (by rw [hbad]; decide)]
   have hT:(if g.ins then g.text else []) ++ subL s 30 (30+(byteF s 13).toNat)=if k+1=nfr l[i] then l[i] else l[i].take ((k+1) * 90):=by
    rw [h13,hF.txt,← chunk_join hkl,hg.ins]
    congr 1
    by_cases h:0 < k
    ·rw [decide_eq_true h,if_pos rfl,hg.text h,List.getD_eq_getElem?_getD,List.getElem?_eq_getElem hlt]; rfl
    ·rw [decide_eq_false h]
     have:k=0:=by omega
     subst this
     simp
   have hend:=flag_end k (nfr l[i])
   have hx:nextF s g=⟨g.q+1,subL s 22 30,if k+1=nfr l[i] then l[i] else l[i].take ((k+1) * 90),decide (byteF s 12 &&& 2=0),if byteF s 12 &&& 2=0 then g.recs else g.recs ++ [⟨if k+1=nfr l[i] then l[i] else l[i].take ((k+1) * 90),g.q+1,subL s 22 30⟩]⟩:=by
    unfold nextF; rw [hT]
   rw [hx,hF.flg,← hlk]
   by_cases hE:k+1=nfr l[i]
   ·rw [if_pos hE,decide_eq_false (fun h=>hend.1 h hE),if_neg (fun h=>hend.1 h hE)]
    refine ih (i+1) 0 _ (by omega) (by omega) (fun h=>by unfold nfr; omega) (fun _=>rfl) ⟨?_, ?_,rfl,fun h=>absurd h (by decide), ?_⟩
    ·show g.q+1=_
     rw [hg.q]; omega
    ·show lkF l _=_
     rw [hs2,← hE,Nat.add_zero,← Nat.add_assoc]
    ·show (g.recs ++ [_]).map _=_
     rw [List.map_append,hg.recs,take_snoc hlt]; rfl
   ·rw [if_neg hE,decide_eq_true (hend.2 hE),if_pos (hend.2 hE)]
    refine ih i (k+1) _ (by omega) hi (fun h=>by omega) (fun h=>by omega) ⟨?_, ?_, ?_,fun _=>?_,hg.recs⟩
    ·show g.q+1=_
     rw [hg.q]; omega
    ·show lkF l _=_
     rw [Nat.add_assoc]
    ·exact (decide_eq_true (by omega)).symm
    ·show List.take _ _=_
     rw [List.getD_eq_getElem?_getD,List.getElem?_eq_getElem hlt]; rfl
  ·have hbad:badF (atD D2 (slotN n (sumN l i+k))) g=true:=by
    unfold badF
    rcases e with e | e
    ·rw [e,hg.q,decide_eq_false (by omega)]; rfl
    ·rw [e]; simp
   rw [if_pos hbad]
   refine⟨i, ?_,hi,hg.recs⟩
   refine Nat.le_of_not_lt fun hlt=>?_
   have h1:=hk (by omega)
   have h2:=sumN_mono l (show i+1≤C by omega)
   rw [sumN_step (by omega:i < l.length)] at h2
   omega

theorem kept_law {n:Nat} (hn:6≤n∧n≤65536) {l:List (List UInt8)} (hl:sumN l l.length≤n - 2) (committed:Int) (keep:List Int)
  (hc:(scanN (crashD keep (kwN n committed l l.length).D) (kwN n committed l l.length).w n).clash=false) :
  ∃ r,r≤l.length∧(1≤committed → committed≤l.length → committed≤r)∧(openG (crashD keep (kwN n committed l l.length).D) b0).map (·.text)=l.take r:=by
 obtain ⟨dur,hK,hd⟩:=kwN_L hn.1 hl committed l.length (Nat.le_refl _)
 obtain ⟨w',hw⟩:=hK.w
 have hlen:(crashD keep (kwN n committed l l.length).D).length=n:=by rw [crashD_length,hK.lay.len]
 have hclean:∀ j,j < n - 2 → _:=fun j hj=>left_clean hn.1 hK.lay keep hw hc hj
 generalize crashD keep (kwN n committed l l.length).D=D2 at hclean hlen
 obtain ⟨C,hC,hCd,hCc⟩:∃ C,C≤l.length∧sumN l C≤dur∧(1≤committed → committed≤l.length → committed≤C):=by
  by_cases h:1≤committed∧committed≤l.length
  ·exact⟨committed.toNat,by omega,hd h.1 h.2,fun _ _=>by omega⟩
  ·exact⟨0,Nat.zero_le _,Nat.zero_le _,fun h1 h2=>absurd ⟨h1,h2⟩ h⟩
 obtain ⟨r,h1,h2,h3⟩:=follow_law hn hl hC hCd hclean (n - 2) 0 0 ⟨1,link0,[],false,[]⟩ (by rw [sumN_zero]; omega) (Nat.zero_le _) (fun h=>by unfold nfr; omega) (fun _=>rfl) ⟨rfl,rfl,rfl,fun h=>absurd h (by decide),rfl⟩
 refine⟨r,h2,fun a b=>by have:=hCc a b; omega, ?_⟩
 unfold openG
 rw [hlen,b0_first]
 exact h3

end Go.Proofs

