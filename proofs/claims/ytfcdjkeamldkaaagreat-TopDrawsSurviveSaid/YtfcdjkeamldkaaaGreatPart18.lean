/-
  A part of the proof that a law answers true: lemmas of a symbolic walk, plain functions, or contracts of the functions walked (VA, Q1, Q2). Conditions: none.
-/
import Derived.Test.YtfcdjkeamldkaaaGreatPart17
import Derived.Test.YtfcdjkeamldkaaaGreatPart12
set_option maxRecDepth 100000
set_option linter.unusedVariables false
set_option linter.unusedSimpArgs false
namespace Go.Proofs
open Go.Sx

def nfr (s:List UInt8):Nat:=max 1 ((s.length+89) / 90)

def flagF (k n:Nat):UInt8:=(if k=0 then 0 ||| 1 else 0) ||| (if k+1=n then 2 else 0)

theorem u8_or0 (x:UInt8):x ||| 0=x:=by simp

def chunkF (s:List UInt8) (k:Nat):List UInt8:=(s.take (min s.length ((k+1) * 90))).drop (k * 90)

theorem chunkF_len (s:List UInt8) (k:Nat):(chunkF s k).length≤90:=by
 unfold chunkF; rw [List.length_drop,List.length_take]; omega

theorem chunk_le {s:List UInt8} {k:Nat} (h:k < nfr s):k * 90≤min s.length ((k+1) * 90):=by
 unfold nfr at h; omega

def frameS (q sess:Nat) (flags:UInt8) (link text:List UInt8):Sct :=
 if h:link.length=8∧text.length≤90 then ⟨frameF (UInt64.ofNat q) (UInt64.ofNat sess) flags link text,frameF_length _ _ _ _ _ h.1 h.2⟩ else zSct

theorem frameS_l (q sess:Nat) (flags:UInt8) {link text:List UInt8} (h1:link.length=8) (h2:text.length≤90):(frameS q sess flags link text).l=frameF (UInt64.ofNat q) (UInt64.ofNat sess) flags link text:=by
 unfold frameS; rw [dif_pos ⟨h1,h2⟩]

structure Ap where
 D:Dk
 q:Nat
 link:List UInt8

def apStep (n sess:Nat) (s:List UInt8) (k:Nat) (a:Ap):Ap :=
 ⟨setD a.D (2+a.q % (n - 2)) (frameS a.q sess (flagF k (nfr s)) a.link (chunkF s k)),a.q+1,subL (frameS a.q sess (flagF k (nfr s)) a.link (chunkF s k)).l 22 30⟩

def apF (n sess:Nat) (s:List UInt8) (a:Ap):Nat → Ap
 | 0=>a
 | k+1=>apStep n sess s k (apF n sess s a k)

def Free (D:Dk) (n q m:Nat):Prop:=∀ j,j < m → ∀ r,D[2+(q+j) % (n - 2)]? = some r → r.2=none

theorem mod_ne {q d n:Nat} (h0:0 < d) (h:d < n):(q+d) % n ≠ q % n:=by
 intro e
 have:=Nat.sub_mod_eq_zero_of_mod_eq e
 rw [Nat.add_sub_cancel_left,Nat.mod_eq_of_lt h] at this
 omega

theorem Free.step {D:Dk} {n q m:Nat} (h:Free D n q (m+1)) (hm:m+1≤n - 2) (x:Sct):Free (setD D (2+q % (n - 2)) x) n (q+1) m:=by
 intro j hj r hr
 rw [setD_get] at hr
 have hne:¬ 2+(q+1+j) % (n - 2)=2+q % (n - 2):=by
  have:=@mod_ne q (1+j) (n - 2) (by omega) (by omega)
  rw [show q+(1+j)=q+1+j from by omega] at this
  omega
 cases hd:D[2+(q+1+j) % (n - 2)]? with
 | none=>rw [hd] at hr; cases hr
 | some r' =>
  rw [hd] at hr
  simp only [Option.map_some,if_neg hne] at hr
  have e:=Option.some.inj hr
  subst e
  exact h (j+1) (by omega) r' (by rw [show q+(j+1)=q+1+j from by omega]; exact hd)

structure ApI (n q0 m k:Nat) (a:Ap):Prop where
 len:a.D.length=n
 q:a.q=q0+k
 link:a.link.length=8
 free:Free a.D n (q0+k) (m - k)

theorem ApI.step {n q0 m k sess:Nat} {s:List UInt8} {a:Ap} (h:ApI n q0 m k a) (hk:k < m) (hm:m≤n - 2):ApI n q0 m (k+1) (apStep n sess s k a):=by
 refine⟨by show (setD _ _ _).length=n; rw [setD_length]; exact h.len,by show a.q+1=_; rw [h.q]; omega, ?_, ?_⟩
 ·show (subL (frameS _ _ _ _ _).l 22 30).length=8
  rw [subL,List.length_take,List.length_drop,(frameS _ _ _ _ _).h]; rfl
 ·have hf:=h.free
  rw [show m - k=m - (k+1)+1 from by omega] at hf
  show Free (setD a.D (2+a.q % (n - 2)) _) n _ _
  rw [h.q]
  exact hf.step (by omega) _

theorem apF_I {n q0 m sess:Nat} {s:List UInt8} {a:Ap} (h:ApI n q0 m 0 a) (hm:m≤n - 2):∀ k,k≤m → ApI n q0 m k (apF n sess s a k)
 | 0,_=>h
 | k+1,hk=>(apF_I h hm k (by omega)).step (by omega) hm

theorem uvq {q:Nat} (h:q < 18446744073709551616):iv .u64 (q:Int)=uv (UInt64.ofNat q):=by
 show iv .u64 (q:Int)=iv .u64 _
 rw [UInt64.toNat_ofNat_of_lt' h]

theorem frameN_t (q sess:Nat) (hq:q < 18446744073709551616) (hs:sess < 18446744073709551616) (flags:UInt8) (link text:List UInt8) (hk:link.length=8) (ht:text.length≤90) :
  Triple Tryz.prog 80 [iv .u64 q,iv .u64 sess,bt flags,strV link,strV text] [] 0 (arrS (frameS q sess flags link text).l) []:=by
 rw [uvq hq,uvq hs,frameS_l q sess flags hk ht]
 exact frame_t _ _ flags link text hk ht


theorem append_t (D:Dk) (hd:6≤D.length∧D.length≤65536) (b:Bs) (sess:Nat) (hss:sess < 18446744073709551616) (ks:List Kp) (hk:ks.length≤100000) (q:Nat) (link:List UInt8) (he:endOf b ks=(q,link)) (hlk:link.length=8)
  (hb:b.first.toNat≤q) (hqb:q≤1000000) (s:List UInt8) (hsl:s.length≤6000) (hroom:q - b.first.toNat+nfr s≤D.length - 2) (hfree:Free D D.length q (nfr s)) :
  Triple Tryz.prog 34 [.c (.p 3 0 0 0),strV s] (lgH true D.length D b sess ks) 5 (iv .i64 0)
   [(0,true,dskC 1 D.length),(1,true,dkR 5 (apF D.length sess s ⟨D,q,link⟩ (nfr s)).D),(5,true,dkB (apF D.length sess s ⟨D,q,link⟩ (nfr s)).D),
    (3,true, .cells (logC D.length b sess 6 (ks.length+1))),(6,true, .arr (aKept (ks ++ [⟨s,(apF D.length sess s ⟨D,q,link⟩ (nfr s)).q,(apF D.length sess s ⟨D,q,link⟩ (nfr s)).link⟩])))]:=by
 have hend:=end_t D b sess ks hk
 rw [he] at hend
 have hrm:=room_t D hd.2 b sess ks hk q (by rw [he]) hb (by omega)
 have hn1:1≤nfr s:=by unfold nfr; omega
 have hnS:nfr s≤67:=by unfold nfr; omega
 have hI:=apF_I (sess:=sess) (s:=s) (a:=⟨D,q,link⟩) (q0:=q) (m:=nfr s) (n:=D.length) ⟨rfl,rfl,hlk,hfree⟩ (by omega)
 refine triple_of tB_ok Tryz.func34 rfl Tryz.call34 rfl ?_
 intro ρ w hH
 conv=>whnf
 refine call_step hend rfl rfl ?_
 conv=>whnf
 refine⟨(by repeat' (first | exact (aRow_ren rfl) | exact trivial | exact rfl | refine And.intro ?_ ?_ | ((conv=>whnf); first | exact (aRow_ren rfl) | exact trivial | exact rfl | refine And.intro ?_ ?_ | omega))),(by repeat' (first | exact (aRow_ren rfl) | exact trivial | exact rfl | refine And.intro ?_ ?_ | ((conv=>whnf); first | exact (aRow_ren rfl) | exact trivial | exact rfl | refine And.intro ?_ ?_ | omega))), ?_⟩
 conv=>whnf
 refine⟨((s.length+90:Nat):Int),by show IntKind.i64.wrap ((s.length:Int)+90)=_; rw [show (s.length:Int)+90=((s.length+90:Nat):Int) from by omega]; exact wrapId ⟨by omega,by omega⟩, ?_⟩
 conv=>whnf
 refine⟨((s.length+89:Nat):Int),by rw [show ((s.length+90:Nat):Int) - 1=((s.length+89:Nat):Int) from by omega]; exact wrapId ⟨by omega,by omega⟩, ?_⟩
 conv=>whnf
 refine⟨by decide,(((s.length+89) / 90:Nat):Int),by rw [show ((s.length+89:Nat):Int).tdiv 90=(((s.length+89) / 90:Nat):Int) from (Int.ofNat_tdiv (s.length+89) 90).symm]; exact wrapId ⟨by omega,by omega⟩, ?_⟩
 conv=>whnf
 have hmx:max (1:Int) (((s.length+89) / 90:Nat):Int)=((nfr s:Nat):Int):=by unfold nfr; omega
 rw [hmx]
 generalize hm:nfr s=m at hroom hfree hn1 hnS hI ⊢
 conv=>whnf
 refine⟨fun hc=>?_,fun hc=>?_⟩
 ·have hc:decide ((6000:Int) < (s.length:Int))=true:=hc
  exact absurd (of_decide_eq_true hc) (by omega)
 conv=>whnf
 refine call_step hrm rfl rfl ?_
 conv=>whnf
 refine⟨(by repeat' (first | exact (aRow_ren rfl) | exact trivial | exact rfl | refine And.intro ?_ ?_ | ((conv=>whnf); first | exact (aRow_ren rfl) | exact trivial | exact rfl | refine And.intro ?_ ?_ | omega))),(by repeat' (first | exact (aRow_ren rfl) | exact trivial | exact rfl | refine And.intro ?_ ?_ | ((conv=>whnf); first | exact (aRow_ren rfl) | exact trivial | exact rfl | refine And.intro ?_ ?_ | omega))), ?_⟩
 conv=>whnf
 refine⟨fun hc=>?_,fun hc=>?_⟩
 ·exact absurd (of_decide_eq_true hc) (by omega)
 conv=>whnf
 refine⟨(m:Int),wrap_u64_nat m (by omega), ?_⟩
 conv=>whnf
 refine⟨((q+m:Nat):Int),by dsimp only; rw [show (q:Int)+(m:Int)=((q+m:Nat):Int) from by omega]; exact wrap_u64_nat _ (by omega), ?_⟩
 conv=>whnf
 refine⟨((q+m - 1:Nat):Int),by rw [show ((q+m:Nat):Int) - 1=((q+m - 1:Nat):Int) from by omega]; exact wrap_u64_nat _ (by omega), ?_⟩
 conv=>whnf
 refine⟨fun hc=>?_,fun hc=>?_⟩
 ·exact absurd (of_decide_eq_true hc) (by omega)
 conv=>whnf
 refine loop_step tB_ok (G:=Nat × Ap) 1 [2] (fun g=>[(40,iv .i64 g.1),(5,iv .u64 g.2.q),(6,strV g.2.link)]) (fun g=>[(0,true,dskC 1 D.length),(1,true,dkR 5 g.2.D),(5,true,dkB g.2.D)]) (fun g=>g.1≤m∧g.2=apF D.length sess s ⟨D,q,link⟩ g.1) (fun g=>m - g.1) ?_
 conv=>whnf
 refine⟨⟨(0,⟨D,q,link⟩),⟨Nat.zero_le _,rfl⟩, ?_⟩, ?_⟩
 ·conv=>whnf
  repeat' (first | exact (aRow_ren rfl) | exact trivial | exact rfl | refine And.intro ?_ ?_ | ((conv=>whnf); first | exact (aRow_ren rfl) | exact trivial | exact rfl | refine And.intro ?_ ?_ | omega))
 rintro ⟨k,a⟩ ⟨hkm,ha⟩ ρ1 t1 hρ1
 have hkm:k≤m:=hkm
 have ha:a=apF D.length sess s ⟨D,q,link⟩ k:=ha
 conv=>whnf
 refine⟨fun hc=>?_,fun hc=>?_⟩
 rotate_left
 ·have hke:k=m:=by have:=of_decide_eq_false hc; omega
  subst hke
  rw [← ha]
  conv=>whnf
  refine bs_step tB_ok (aKept [⟨s,a.q,a.link⟩]) rfl rfl ?_
  conv=>whnf
  refine⟨⟨rfl,(by repeat'(first|exact trivial|exact rfl|refine And.intro ?_ ?_|((conv=>whnf);first|exact trivial|exact rfl|refine And.intro ?_ ?_|omega)))⟩, ?_⟩
  generalize hr:(⟨s,a.q,a.link⟩:Kp)=r
  conv=>whnf
  refine appR_step tB_ok (aKept ks) [r] (ks ++ [r]) (fun _=>rfl) rfl rfl rfl rfl ?_
  conv=>whnf
  refine⟨⟨rfl,rfl,Nat.le_refl _,Nat.le_refl _,by show (ks.length+1) * 41≤140737488355328; omega,app1⟩, ?_⟩
  have e3:(ks ++ [r]).length=ks.length+1:=by rw [List.length_append]; rfl
  conv=>whnf
  repeat' (first | exact aRow_ren rfl | exact e3 | exact trivial | exact rfl | refine And.intro ?_ ?_ | ((conv=>whnf); first | exact aRow_ren rfl | exact e3 | exact trivial | exact rfl | refine And.intro ?_ ?_ | omega))
 have h:k < m:=by have:=of_decide_eq_true hc; omega
 have hAI:=hI k hkm
 rw [← ha] at hAI
 obtain ⟨hal,haq,hak,haf⟩:=hAI
 have hst:apF D.length sess s ⟨D,q,link⟩ (k+1)=apStep D.length sess s k a:=by rw [ha]; rfl
 have hml:=Nat.mod_lt a.q (show 0 < D.length - 2 by omega)
 have hcl:=chunk_le (s:=s) (k:=k) (by omega)
 have hnone:(a.D[2+a.q % (D.length - 2)]'(by rw [hal]; omega)).2=none:=by
  refine haf 0 (by omega) _ ?_
  rw [← haq]
  exact List.getElem?_eq_getElem _
 have hslt:Triple Tryz.prog 70 [.agg (partC D.length),iv .u64 a.q] [(0,false,dskC 1 D.length),(1,false,dkR 2 a.D),(2,false,dkB a.D)] 3 (iv .i64 ((2+a.q % (D.length - 2):Nat):Int)) []:=by
  have:=slot_t a.D D.length hd a.q (by omega)
  dsimp only [dkH] at this
  rw [hal] at this
  exact this
 conv=>whnf
 by_cases h0:k=0
 ·have hk0:((k:Int) == 0)=true:=by rw [h0]; rfl
  refine⟨fun hc=>?_,fun hc=>absurd (show ((k:Int) == 0)=false from hc) (by rw [hk0]; decide)⟩
  conv=>whnf
  refine⟨_,u8_or 0 1, ?_⟩
  conv=>whnf
  refine⟨(m:Int) - 1,wrapId ⟨by omega,by omega⟩, ?_⟩
  conv=>whnf
  by_cases h1:k+1=m
  ·have hk1:((k:Int) == (m:Int) - 1)=true:=by simp; omega
   refine⟨fun hc=>?_,fun hc=>absurd (show ((k:Int) == (m:Int) - 1)=false from hc) (by rw [hk1]; decide)⟩
   conv=>whnf
   refine⟨_,u8_or (0 ||| 1) 2, ?_⟩
   conv=>whnf
   have hfl:flagF k (nfr s)=((0 ||| 1) ||| 2:UInt8):=by rw [hm]; simp only [flagF,if_pos h0,if_pos h1]
   refine⟨((k * 90:Nat):Int),by dsimp only; rw [show (k:Int) * 90=((k * 90:Nat):Int) from by omega]; exact wrapId ⟨by omega,by omega⟩, ?_⟩
   conv=>whnf
   refine⟨((k+1:Nat):Int),by dsimp only; rw [show (k:Int)+1=((k+1:Nat):Int) from by omega]; exact wrapId ⟨by omega,by omega⟩, ?_⟩
   conv=>whnf
   refine⟨(((k+1) * 90:Nat):Int),by rw [show ((k+1:Nat):Int) * 90=(((k+1) * 90:Nat):Int) from by omega]; exact wrapId ⟨by omega,by omega⟩, ?_⟩
   conv=>whnf
   refine ssub_step (l:=s) tB_ok rfl rfl rfl ⟨min s.length ((k+1) * 90),by show min (s.length:Int) _=_; omega,by omega,k * 90,rfl,hcl, ?_⟩
   rw [show (s.take (min s.length ((k+1) * 90))).drop (k * 90)=chunkF s k from rfl]
   conv=>whnf
   refine call_step (frameN_t a.q sess (by omega) hss ((0 ||| 1) ||| 2:UInt8) a.link (chunkF s k) hak (chunkF_len s k)) rfl rfl ?_
   have hst':apStep D.length sess s k a=⟨setD a.D (2+a.q % (D.length - 2)) (frameS a.q sess ((0 ||| 1) ||| 2:UInt8) a.link (chunkF s k)),a.q+1,subL (frameS a.q sess ((0 ||| 1) ||| 2:UInt8) a.link (chunkF s k)).l 22 30⟩:=by simp only [apStep,hfl]
   rw [hst'] at hst
   generalize frameS a.q sess ((0 ||| 1) ||| 2:UInt8) a.link (chunkF s k)=x at hst ⊢
   have hwt:=write_t a.D (2+a.q % (D.length - 2)) (by rw [hal]; omega) hnone x
   rw [hal] at hwt
   conv=>whnf
   refine⟨?_, ?_, ?_⟩
   iterate 2 · repeat'(first|exact trivial|exact rfl|refine And.intro ?_ ?_|((conv=>whnf);first|exact trivial|exact rfl|refine And.intro ?_ ?_|omega))
   conv=>whnf
   refine allocA_step tB_ok 128 rfl rfl rfl ?_
   conv=>whnf
   refine storeA_step (l':=x.l) tB_ok rfl rfl rfl rfl rfl (by simp) (by rw [x.h]; simp) (by decide) ?_
   conv=>whnf
   refine call_step hslt rfl rfl ?_
   conv=>whnf
   refine⟨(by repeat' (first | exact (aRow_ren rfl) | exact trivial | exact rfl | refine And.intro ?_ ?_ | ((conv=>whnf); first | exact (aRow_ren rfl) | exact trivial | exact rfl | refine And.intro ?_ ?_ | omega))),(by repeat' (first | exact (aRow_ren rfl) | exact trivial | exact rfl | refine And.intro ?_ ?_ | ((conv=>whnf); first | exact (aRow_ren rfl) | exact trivial | exact rfl | refine And.intro ?_ ?_ | omega))), ?_⟩
   conv=>whnf
   refine⟨((2+a.q % (D.length - 2):Nat):Int),by rw [Int.zero_add]; exact wrapId ⟨by omega,by omega⟩, ?_⟩
   conv=>whnf
   refine loadA_step (l:=x.l) tB_ok rfl rfl rfl rfl rfl x.h.symm ?_
   conv=>whnf
   refine call_step hwt rfl rfl ?_
   conv=>whnf
   refine⟨(by repeat' (first | exact (aRow_ren rfl) | exact trivial | exact rfl | refine And.intro ?_ ?_ | ((conv=>whnf); first | exact (aRow_ren rfl) | exact trivial | exact rfl | refine And.intro ?_ ?_ | omega))),(by repeat' (first | exact (aRow_ren rfl) | exact trivial | exact rfl | refine And.intro ?_ ?_ | ((conv=>whnf); first | exact (aRow_ren rfl) | exact trivial | exact rfl | refine And.intro ?_ ?_ | omega))), ?_⟩
   conv=>whnf
   rw [← aRow_ren rfl]
   refine⟨fun hc=>absurd hc (by simp),fun hc=>?_⟩
   conv=>whnf
   refine⟨((a.q+1:Nat):Int),by dsimp only; rw [show (a.q:Int)+1=((a.q+1:Nat):Int) from by omega]; exact wrap_u64_nat _ (by omega), ?_⟩
   conv=>whnf
   refine slA_step (n:=128) (l:=x.l) tB_ok rfl rfl rfl rfl rfl rfl ⟨30,rfl,by decide,22,rfl,by decide, ?_⟩
   conv=>whnf
   refine b2s_step (fx:=some 128) (l:=x.l) tB_ok rfl rfl rfl rfl rfl rfl (by show 22+8≤_; rw [x.h]; decide) ?_
   rw [show (x.l.drop 22).take (subN 30 22)=subL x.l 22 30 from rfl]
   conv=>whnf
   refine⟨_,wrapId ⟨by omega,by omega⟩, ?_⟩
   refine⟨(k+1,_),⟨h,hst.symm⟩,by show m - (k+1) < m - k; omega, ?_⟩
   conv=>whnf
   refine⟨rfl, ?_⟩
   conv=>whnf
   repeat' (first | exact (aRow_ren rfl) | exact trivial | exact rfl | refine And.intro ?_ ?_ | ((conv=>whnf); first | exact (aRow_ren rfl) | exact trivial | exact rfl | refine And.intro ?_ ?_ | omega))
  ·have hk1:((k:Int) == (m:Int) - 1)=false:=by simp; omega
   refine⟨fun hc=>absurd (show ((k:Int) == (m:Int) - 1)=true from hc) (by rw [hk1]; decide),fun hc=>?_⟩
   conv=>whnf
   have hfl:flagF k (nfr s)=(0 ||| 1:UInt8):=by rw [hm]; simp only [flagF,if_pos h0,if_neg h1,u8_or0]
   refine⟨((k * 90:Nat):Int),by dsimp only; rw [show (k:Int) * 90=((k * 90:Nat):Int) from by omega]; exact wrapId ⟨by omega,by omega⟩, ?_⟩
   conv=>whnf
   refine⟨((k+1:Nat):Int),by dsimp only; rw [show (k:Int)+1=((k+1:Nat):Int) from by omega]; exact wrapId ⟨by omega,by omega⟩, ?_⟩
   conv=>whnf
   refine⟨(((k+1) * 90:Nat):Int),by rw [show ((k+1:Nat):Int) * 90=(((k+1) * 90:Nat):Int) from by omega]; exact wrapId ⟨by omega,by omega⟩, ?_⟩
   conv=>whnf
   refine ssub_step (l:=s) tB_ok rfl rfl rfl ⟨min s.length ((k+1) * 90),by show min (s.length:Int) _=_; omega,by omega,k * 90,rfl,hcl, ?_⟩
   rw [show (s.take (min s.length ((k+1) * 90))).drop (k * 90)=chunkF s k from rfl]
   conv=>whnf
   refine call_step (frameN_t a.q sess (by omega) hss (0 ||| 1:UInt8) a.link (chunkF s k) hak (chunkF_len s k)) rfl rfl ?_
   have hst':apStep D.length sess s k a=⟨setD a.D (2+a.q % (D.length - 2)) (frameS a.q sess (0 ||| 1:UInt8) a.link (chunkF s k)),a.q+1,subL (frameS a.q sess (0 ||| 1:UInt8) a.link (chunkF s k)).l 22 30⟩:=by simp only [apStep,hfl]
   rw [hst'] at hst
   generalize frameS a.q sess (0 ||| 1:UInt8) a.link (chunkF s k)=x at hst ⊢
   have hwt:=write_t a.D (2+a.q % (D.length - 2)) (by rw [hal]; omega) hnone x
   rw [hal] at hwt
   conv=>whnf
   refine⟨?_, ?_, ?_⟩
   iterate 2 · repeat'(first|exact trivial|exact rfl|refine And.intro ?_ ?_|((conv=>whnf);first|exact trivial|exact rfl|refine And.intro ?_ ?_|omega))
   conv=>whnf
   refine allocA_step tB_ok 128 rfl rfl rfl ?_
   conv=>whnf
   refine storeA_step (l':=x.l) tB_ok rfl rfl rfl rfl rfl (by simp) (by rw [x.h]; simp) (by decide) ?_
   conv=>whnf
   refine call_step hslt rfl rfl ?_
   conv=>whnf
   refine⟨(by repeat' (first | exact (aRow_ren rfl) | exact trivial | exact rfl | refine And.intro ?_ ?_ | ((conv=>whnf); first | exact (aRow_ren rfl) | exact trivial | exact rfl | refine And.intro ?_ ?_ | omega))),(by repeat' (first | exact (aRow_ren rfl) | exact trivial | exact rfl | refine And.intro ?_ ?_ | ((conv=>whnf); first | exact (aRow_ren rfl) | exact trivial | exact rfl | refine And.intro ?_ ?_ | omega))), ?_⟩
   conv=>whnf
   refine⟨((2+a.q % (D.length - 2):Nat):Int),by rw [Int.zero_add]; exact wrapId ⟨by omega,by omega⟩, ?_⟩
   conv=>whnf
   refine loadA_step (l:=x.l) tB_ok rfl rfl rfl rfl rfl x.h.symm ?_
   conv=>whnf
   refine call_step hwt rfl rfl ?_
   conv=>whnf
   refine⟨(by repeat' (first | exact (aRow_ren rfl) | exact trivial | exact rfl | refine And.intro ?_ ?_ | ((conv=>whnf); first | exact (aRow_ren rfl) | exact trivial | exact rfl | refine And.intro ?_ ?_ | omega))),(by repeat' (first | exact (aRow_ren rfl) | exact trivial | exact rfl | refine And.intro ?_ ?_ | ((conv=>whnf); first | exact (aRow_ren rfl) | exact trivial | exact rfl | refine And.intro ?_ ?_ | omega))), ?_⟩
   conv=>whnf
   rw [← aRow_ren rfl]
   refine⟨fun hc=>absurd hc (by simp),fun hc=>?_⟩
   conv=>whnf
   refine⟨((a.q+1:Nat):Int),by dsimp only; rw [show (a.q:Int)+1=((a.q+1:Nat):Int) from by omega]; exact wrap_u64_nat _ (by omega), ?_⟩
   conv=>whnf
   refine slA_step (n:=128) (l:=x.l) tB_ok rfl rfl rfl rfl rfl rfl ⟨30,rfl,by decide,22,rfl,by decide, ?_⟩
   conv=>whnf
   refine b2s_step (fx:=some 128) (l:=x.l) tB_ok rfl rfl rfl rfl rfl rfl (by show 22+8≤_; rw [x.h]; decide) ?_
   rw [show (x.l.drop 22).take (subN 30 22)=subL x.l 22 30 from rfl]
   conv=>whnf
   refine⟨_,wrapId ⟨by omega,by omega⟩, ?_⟩
   refine⟨(k+1,_),⟨h,hst.symm⟩,by show m - (k+1) < m - k; omega, ?_⟩
   conv=>whnf
   refine⟨rfl, ?_⟩
   conv=>whnf
   repeat' (first | exact (aRow_ren rfl) | exact trivial | exact rfl | refine And.intro ?_ ?_ | ((conv=>whnf); first | exact (aRow_ren rfl) | exact trivial | exact rfl | refine And.intro ?_ ?_ | omega))
 ·have hk0:((k:Int) == 0)=false:=by simp; omega
  refine⟨fun hc=>absurd (show ((k:Int) == 0)=true from hc) (by rw [hk0]; decide),fun hc=>?_⟩
  conv=>whnf
  refine⟨(m:Int) - 1,wrapId ⟨by omega,by omega⟩, ?_⟩
  conv=>whnf
  by_cases h1:k+1=m
  ·have hk1:((k:Int) == (m:Int) - 1)=true:=by simp; omega
   refine⟨fun hc=>?_,fun hc=>absurd (show ((k:Int) == (m:Int) - 1)=false from hc) (by rw [hk1]; decide)⟩
   conv=>whnf
   refine⟨_,u8_or 0 2, ?_⟩
   conv=>whnf
   have hfl:flagF k (nfr s)=(0 ||| 2:UInt8):=by rw [hm]; simp only [flagF,if_neg h0,if_pos h1]
   refine⟨((k * 90:Nat):Int),by dsimp only; rw [show (k:Int) * 90=((k * 90:Nat):Int) from by omega]; exact wrapId ⟨by omega,by omega⟩, ?_⟩
   conv=>whnf
   refine⟨((k+1:Nat):Int),by dsimp only; rw [show (k:Int)+1=((k+1:Nat):Int) from by omega]; exact wrapId ⟨by omega,by omega⟩, ?_⟩
   conv=>whnf
   refine⟨(((k+1) * 90:Nat):Int),by rw [show ((k+1:Nat):Int) * 90=(((k+1) * 90:Nat):Int) from by omega]; exact wrapId ⟨by omega,by omega⟩, ?_⟩
   conv=>whnf
   refine ssub_step (l:=s) tB_ok rfl rfl rfl ⟨min s.length ((k+1) * 90),by show min (s.length:Int) _=_; omega,by omega,k * 90,rfl,hcl, ?_⟩
   rw [show (s.take (min s.length ((k+1) * 90))).drop (k * 90)=chunkF s k from rfl]
   conv=>whnf
   refine call_step (frameN_t a.q sess (by omega) hss (0 ||| 2:UInt8) a.link (chunkF s k) hak (chunkF_len s k)) rfl rfl ?_
   have hst':apStep D.length sess s k a=⟨setD a.D (2+a.q % (D.length - 2)) (frameS a.q sess (0 ||| 2:UInt8) a.link (chunkF s k)),a.q+1,subL (frameS a.q sess (0 ||| 2:UInt8) a.link (chunkF s k)).l 22 30⟩:=by simp only [apStep,hfl]
   rw [hst'] at hst
   generalize frameS a.q sess (0 ||| 2:UInt8) a.link (chunkF s k)=x at hst ⊢
   have hwt:=write_t a.D (2+a.q % (D.length - 2)) (by rw [hal]; omega) hnone x
   rw [hal] at hwt
   conv=>whnf
   refine⟨?_, ?_, ?_⟩
   iterate 2 · repeat'(first|exact trivial|exact rfl|refine And.intro ?_ ?_|((conv=>whnf);first|exact trivial|exact rfl|refine And.intro ?_ ?_|omega))
   conv=>whnf
   refine allocA_step tB_ok 128 rfl rfl rfl ?_
   conv=>whnf
   refine storeA_step (l':=x.l) tB_ok rfl rfl rfl rfl rfl (by simp) (by rw [x.h]; simp) (by decide) ?_
   conv=>whnf
   refine call_step hslt rfl rfl ?_
   conv=>whnf
   refine⟨(by repeat' (first | exact (aRow_ren rfl) | exact trivial | exact rfl | refine And.intro ?_ ?_ | ((conv=>whnf); first | exact (aRow_ren rfl) | exact trivial | exact rfl | refine And.intro ?_ ?_ | omega))),(by repeat' (first | exact (aRow_ren rfl) | exact trivial | exact rfl | refine And.intro ?_ ?_ | ((conv=>whnf); first | exact (aRow_ren rfl) | exact trivial | exact rfl | refine And.intro ?_ ?_ | omega))), ?_⟩
   conv=>whnf
   refine⟨((2+a.q % (D.length - 2):Nat):Int),by rw [Int.zero_add]; exact wrapId ⟨by omega,by omega⟩, ?_⟩
   conv=>whnf
   refine loadA_step (l:=x.l) tB_ok rfl rfl rfl rfl rfl x.h.symm ?_
   conv=>whnf
   refine call_step hwt rfl rfl ?_
   conv=>whnf
   refine⟨(by repeat' (first | exact (aRow_ren rfl) | exact trivial | exact rfl | refine And.intro ?_ ?_ | ((conv=>whnf); first | exact (aRow_ren rfl) | exact trivial | exact rfl | refine And.intro ?_ ?_ | omega))),(by repeat' (first | exact (aRow_ren rfl) | exact trivial | exact rfl | refine And.intro ?_ ?_ | ((conv=>whnf); first | exact (aRow_ren rfl) | exact trivial | exact rfl | refine And.intro ?_ ?_ | omega))), ?_⟩
   conv=>whnf
   rw [← aRow_ren rfl]
   refine⟨fun hc=>absurd hc (by simp),fun hc=>?_⟩
   conv=>whnf
   refine⟨((a.q+1:Nat):Int),by dsimp only; rw [show (a.q:Int)+1=((a.q+1:Nat):Int) from by omega]; exact wrap_u64_nat _ (by omega), ?_⟩
   conv=>whnf
   refine slA_step (n:=128) (l:=x.l) tB_ok rfl rfl rfl rfl rfl rfl ⟨30,rfl,by decide,22,rfl,by decide, ?_⟩
   conv=>whnf
   refine b2s_step (fx:=some 128) (l:=x.l) tB_ok rfl rfl rfl rfl rfl rfl (by show 22+8≤_; rw [x.h]; decide) ?_
   rw [show (x.l.drop 22).take (subN 30 22)=subL x.l 22 30 from rfl]
   conv=>whnf
   refine⟨_,wrapId ⟨by omega,by omega⟩, ?_⟩
   refine⟨(k+1,_),⟨h,hst.symm⟩,by show m - (k+1) < m - k; omega, ?_⟩
   conv=>whnf
   refine⟨rfl, ?_⟩
   conv=>whnf
   repeat' (first | exact (aRow_ren rfl) | exact trivial | exact rfl | refine And.intro ?_ ?_ | ((conv=>whnf); first | exact (aRow_ren rfl) | exact trivial | exact rfl | refine And.intro ?_ ?_ | omega))
  ·have hk1:((k:Int) == (m:Int) - 1)=false:=by simp; omega
   refine⟨fun hc=>absurd (show ((k:Int) == (m:Int) - 1)=true from hc) (by rw [hk1]; decide),fun hc=>?_⟩
   conv=>whnf
   have hfl:flagF k (nfr s)=(0:UInt8):=by rw [hm]; simp only [flagF,if_neg h0,if_neg h1,u8_or0]
   refine⟨((k * 90:Nat):Int),by dsimp only; rw [show (k:Int) * 90=((k * 90:Nat):Int) from by omega]; exact wrapId ⟨by omega,by omega⟩, ?_⟩
   conv=>whnf
   refine⟨((k+1:Nat):Int),by dsimp only; rw [show (k:Int)+1=((k+1:Nat):Int) from by omega]; exact wrapId ⟨by omega,by omega⟩, ?_⟩
   conv=>whnf
   refine⟨(((k+1) * 90:Nat):Int),by rw [show ((k+1:Nat):Int) * 90=(((k+1) * 90:Nat):Int) from by omega]; exact wrapId ⟨by omega,by omega⟩, ?_⟩
   conv=>whnf
   refine ssub_step (l:=s) tB_ok rfl rfl rfl ⟨min s.length ((k+1) * 90),by show min (s.length:Int) _=_; omega,by omega,k * 90,rfl,hcl, ?_⟩
   rw [show (s.take (min s.length ((k+1) * 90))).drop (k * 90)=chunkF s k from rfl]
   conv=>whnf
   refine call_step (frameN_t a.q sess (by omega) hss (0:UInt8) a.link (chunkF s k) hak (chunkF_len s k)) rfl rfl ?_
   have hst':apStep D.length sess s k a=⟨setD a.D (2+a.q % (D.length - 2)) (frameS a.q sess (0:UInt8) a.link (chunkF s k)),a.q+1,subL (frameS a.q sess (0:UInt8) a.link (chunkF s k)).l 22 30⟩:=by simp only [apStep,hfl]
   rw [hst'] at hst
   generalize frameS a.q sess (0:UInt8) a.link (chunkF s k)=x at hst ⊢
   have hwt:=write_t a.D (2+a.q % (D.length - 2)) (by rw [hal]; omega) hnone x
   rw [hal] at hwt
   conv=>whnf
   refine⟨?_, ?_, ?_⟩
   iterate 2 · repeat'(first|exact trivial|exact rfl|refine And.intro ?_ ?_|((conv=>whnf);first|exact trivial|exact rfl|refine And.intro ?_ ?_|omega))
   conv=>whnf
   refine allocA_step tB_ok 128 rfl rfl rfl ?_
   conv=>whnf
   refine storeA_step (l':=x.l) tB_ok rfl rfl rfl rfl rfl (by simp) (by rw [x.h]; simp) (by decide) ?_
   conv=>whnf
   refine call_step hslt rfl rfl ?_
   conv=>whnf
   refine⟨(by repeat' (first | exact (aRow_ren rfl) | exact trivial | exact rfl | refine And.intro ?_ ?_ | ((conv=>whnf); first | exact (aRow_ren rfl) | exact trivial | exact rfl | refine And.intro ?_ ?_ | omega))),(by repeat' (first | exact (aRow_ren rfl) | exact trivial | exact rfl | refine And.intro ?_ ?_ | ((conv=>whnf); first | exact (aRow_ren rfl) | exact trivial | exact rfl | refine And.intro ?_ ?_ | omega))), ?_⟩
   conv=>whnf
   refine⟨((2+a.q % (D.length - 2):Nat):Int),by rw [Int.zero_add]; exact wrapId ⟨by omega,by omega⟩, ?_⟩
   conv=>whnf
   refine loadA_step (l:=x.l) tB_ok rfl rfl rfl rfl rfl x.h.symm ?_
   conv=>whnf
   refine call_step hwt rfl rfl ?_
   conv=>whnf
   refine⟨(by repeat' (first | exact (aRow_ren rfl) | exact trivial | exact rfl | refine And.intro ?_ ?_ | ((conv=>whnf); first | exact (aRow_ren rfl) | exact trivial | exact rfl | refine And.intro ?_ ?_ | omega))),(by repeat' (first | exact (aRow_ren rfl) | exact trivial | exact rfl | refine And.intro ?_ ?_ | ((conv=>whnf); first | exact (aRow_ren rfl) | exact trivial | exact rfl | refine And.intro ?_ ?_ | omega))), ?_⟩
   conv=>whnf
   rw [← aRow_ren rfl]
   refine⟨fun hc=>absurd hc (by simp),fun hc=>?_⟩
   conv=>whnf
   refine⟨((a.q+1:Nat):Int),by dsimp only; rw [show (a.q:Int)+1=((a.q+1:Nat):Int) from by omega]; exact wrap_u64_nat _ (by omega), ?_⟩
   conv=>whnf
   refine slA_step (n:=128) (l:=x.l) tB_ok rfl rfl rfl rfl rfl rfl ⟨30,rfl,by decide,22,rfl,by decide, ?_⟩
   conv=>whnf
   refine b2s_step (fx:=some 128) (l:=x.l) tB_ok rfl rfl rfl rfl rfl rfl (by show 22+8≤_; rw [x.h]; decide) ?_
   rw [show (x.l.drop 22).take (subN 30 22)=subL x.l 22 30 from rfl]
   conv=>whnf
   refine⟨_,wrapId ⟨by omega,by omega⟩, ?_⟩
   refine⟨(k+1,_),⟨h,hst.symm⟩,by show m - (k+1) < m - k; omega, ?_⟩
   conv=>whnf
   refine⟨rfl, ?_⟩
   conv=>whnf
   repeat' (first | exact (aRow_ren rfl) | exact trivial | exact rfl | refine And.intro ?_ ?_ | ((conv=>whnf); first | exact (aRow_ren rfl) | exact trivial | exact rfl | refine And.intro ?_ ?_ | omega))

end Go.Proofs

namespace Go.Proofs
open Go.Sx

theorem shr7_nat (z:UInt64):(z >>> UInt64.ofNat 7).toNat=z.toNat / 128:=by
 rw [UInt64.toNat_shiftRight]
 show z.toNat >>> 7=_
 rw [Nat.shiftRight_eq_div_pow]

theorem top_nat (z:UInt64):(z.toUInt8 ||| 128).toNat=z.toNat % 128+128:=by
 have:∀ b:Nat,b < 256 → b ||| 128=b % 128+128:=by decide
 rw [UInt8.toNat_or]
 show z.toUInt8.toNat ||| 128=_
 rw [this _ z.toUInt8.toNat_lt,UInt64.toNat_toUInt8]; omega

theorem xint_t (n:Int) (hn:0≤n∧n≤4611686018427387904):Triple Tryz.prog 124 [iv .i64 n] [] 0 (strV (intF n)) []:=by
 have hzp:=zig_pos (n:=n) hn.1 (by omega)
 refine triple_of tB_ok Tryz.func124 rfl Tryz.call124 rfl ?_
 intro ρ w hH
 conv=>whnf
 refine⟨n,by rw [wrap_u64]; omega, ?_⟩
 conv=>whnf
 refine⟨((zigF n).toNat:Int),by rw [hzp,wrap_u64]; omega, ?_⟩
 conv=>whnf
 refine⟨fun hc=>absurd (of_decide_eq_true hc) (by omega),fun hc=>?_⟩
 conv=>whnf
 refine loop_step tB_ok (G:=Nat × UInt64 × List UInt8) 1 [] (fun g=>[(3,uv g.2.1),(4, .c (.s 0 0 g.2.2.length 1))]) (fun g=>[(0,true, .arr (aU8 none g.2.2))])
  (fun g=>g.1+g.2.2.length≤10∧g.2.1.toNat < 128 ^ (g.1+1)∧g.2.2 ++ varF g.1 g.2.1=intF n) (fun g=>g.1) ?_
 conv=>whnf
 refine⟨⟨(10,zigF n,[]),⟨Nat.le_refl _, ?_,rfl⟩, ?_⟩, ?_⟩
 ·exact Nat.lt_of_lt_of_le (u64_lt _) (by show 18446744073709551616≤128 ^ (10+1); decide)
 ·conv=>whnf
  repeat'(first|exact trivial|exact rfl|refine And.intro ?_ ?_|((conv=>whnf);first|exact trivial|exact rfl|refine And.intro ?_ ?_|omega))
 rintro ⟨f,z,acc⟩ ⟨hf,hz,hR⟩ ρ1 t1 hρ1
 dsimp only at hf hz hR
 conv=>whnf
 refine⟨fun hc=>?_,fun hc=>?_⟩
 ·have hge:128≤z.toNat:=by simp at hc; omega
  have hzl:=u64_lt z
  conv=>whnf
  refine⟨by decide,((z.toNat % 128:Nat):Int),(Int.ofNat_tmod z.toNat 128).symm, ?_⟩
  conv=>whnf
  refine⟨((128+z.toNat % 128:Nat):Int),by rw [wrap_u64]; omega, ?_⟩
  conv=>whnf
  refine⟨((z.toUInt8 ||| 128).toNat:Int),by rw [top_nat,wrap_u8]; omega, ?_⟩
  conv=>whnf
  refine bs_step tB_ok (aU8 none [z.toUInt8 ||| 128]) rfl rfl ?_
  conv=>whnf
  refine⟨⟨rfl,(by repeat'(first|exact trivial|exact rfl|refine And.intro ?_ ?_|((conv=>whnf);first|exact trivial|exact rfl|refine And.intro ?_ ?_|omega)))⟩, ?_⟩
  conv=>whnf
  refine app_step tB_ok (aU8 none acc) [z.toUInt8 ||| 128] (fun _=>rfl) rfl rfl rfl rfl ?_
  conv=>whnf
  refine⟨⟨rfl,rfl,Nat.le_refl _,Nat.le_refl _,by show (acc.length+1) * 2≤_; omega⟩, ?_⟩
  have e1:=shr7_nat z
  conv=>whnf
  refine⟨by decide,((z >>> UInt64.ofNat 7).toNat:Int),by rw [e1,show (z.toNat:Int).tdiv 128=((z.toNat / 128:Nat):Int) from (Int.ofNat_tdiv z.toNat 128).symm,wrap_u64]; omega, ?_⟩
  obtain ⟨f,rfl⟩:∃ j,f=j+1:=by
   cases f with
   | zero=>omega
   | succ j=>exact⟨j,rfl⟩
  refine⟨(f,z >>> UInt64.ofNat 7,acc ++ [z.toUInt8 ||| 128]),⟨by simp; omega, ?_, ?_⟩,by show f < f+1; omega, ?_⟩
  ·show (z >>> UInt64.ofNat 7).toNat < 128 ^ (f+1)
   rw [e1]; rw [Nat.pow_succ] at hz; omega
  ·show (acc ++ [z.toUInt8 ||| 128]) ++ varF f (z >>> UInt64.ofNat 7)=intF n
   rw [← hR]; simp only [varF]; rw [if_pos hge]; simp
  have e2:aU8 none (acc.take acc.length ++ (([z.toUInt8 ||| 128]:List UInt8).drop 0).take 1)=aU8 none (acc ++ [z.toUInt8 ||| 128]):=congrArg (aU8 none) app1
  have e3:(acc ++ [z.toUInt8 ||| 128]).length=acc.length+1:=by simp
  dsimp only
  rw [← e2,e3]
  conv=>whnf
  refine⟨rfl, ?_⟩
  conv=>whnf
  repeat'(first|exact trivial|exact rfl|refine And.intro ?_ ?_|((conv=>whnf);first|exact trivial|exact rfl|refine And.intro ?_ ?_|omega))
 ·have hlt:¬ 128≤z.toNat:=by simp at hc; omega
  rw [varF_last z hlt f] at hR
  conv=>whnf
  refine⟨_,u64_to8 _, ?_⟩
  conv=>whnf
  refine bs_step tB_ok (aU8 none [z.toUInt8]) rfl rfl ?_
  conv=>whnf
  refine⟨⟨rfl,(by repeat'(first|exact trivial|exact rfl|refine And.intro ?_ ?_|((conv=>whnf);first|exact trivial|exact rfl|refine And.intro ?_ ?_|omega)))⟩, ?_⟩
  conv=>whnf
  refine app_step tB_ok (aU8 none acc) [z.toUInt8] (fun _=>rfl) rfl rfl rfl rfl ?_
  conv=>whnf
  refine⟨⟨rfl,rfl,Nat.le_refl _,Nat.le_refl _,by show (acc.length+1) * 2≤_; omega⟩, ?_⟩
  have e4:(((acc.take acc.length ++ (([z.toUInt8]:List UInt8).drop 0).take 1)).drop 0).take (acc.length+1)=intF n:=by
   have a1:acc.take acc.length ++ (([z.toUInt8]:List UInt8).drop 0).take 1=acc ++ [z.toUInt8]:=app1
   rw [List.drop_zero,a1,← hR]
   exact List.take_of_length_le (by rw [List.length_append]; exact Nat.le_refl _)
  rw [← e4]
  conv=>whnf
  refine b2s_step (fx:=none) (l:=acc.take acc.length ++ (([z.toUInt8]:List UInt8).drop 0).take 1) tB_ok rfl rfl rfl rfl rfl rfl (by rw [app1]; show 0+(acc.length+1)≤(acc ++ [z.toUInt8]).length; simp) ?_
  conv=>whnf
  repeat'(first|exact trivial|exact rfl|refine And.intro ?_ ?_|((conv=>whnf);first|exact trivial|exact rfl|refine And.intro ?_ ?_|omega))

theorem xtext_t (s:List UInt8) (hl:s.length≤140737488355328):Triple Tryz.prog 186 [strV s] [] 0 (strV (textF s)) []:=by
 refine triple_of tB_ok Tryz.func186 rfl Tryz.call186 rfl ?_
 intro ρ w hH
 conv=>whnf
 refine call_step (xint_t (s.length:Int) ⟨by omega,by omega⟩) rfl rfl ?_
 conv=>whnf
 refine⟨?_, ?_, ?_⟩
 iterate 2 · repeat'(first|exact trivial|exact rfl|refine And.intro ?_ ?_|((conv=>whnf);first|exact trivial|exact rfl|refine And.intro ?_ ?_|omega))
 conv=>whnf
 refine cat_step (l:=intF (s.length:Int)) (l':=s) rfl rfl rfl (by have:=intF_length (s.length:Int); omega) ?_
 conv=>whnf
 repeat'(first|exact trivial|exact rfl|refine And.intro ?_ ?_|((conv=>whnf);first|exact trivial|exact rfl|refine And.intro ?_ ?_|omega))

theorem xturn_t (x:UInt64) (k:Nat) (h0:0 < k) (hk:k < 64):Triple Tryz.prog 189 [uv x,iv .u64 (k:Int)] [] 0 (uv (rotF x k)) []:=by
 refine triple_of tB_ok Tryz.func189 rfl Tryz.call189 rfl ?_
 intro ρ w hH
 conv=>whnf
 refine⟨by omega,_,u64_shl _ k hk, ?_⟩
 conv=>whnf
 refine⟨((64 - k:Nat):Int),by rw [wrap_u64]; omega, ?_⟩
 conv=>whnf
 refine⟨by omega,_,u64_shr _ (64 - k) (by omega), ?_⟩
 conv=>whnf
 refine⟨_,u64_or _ _, ?_⟩
 conv=>whnf
 repeat'(first|exact trivial|exact rfl|refine And.intro ?_ ?_|((conv=>whnf);first|exact trivial|exact rfl|refine And.intro ?_ ?_|omega))

abbrev mixC (m:Mix):List SC:=[.v (.int .u64 (m.a.toNat:Int)), .v (.int .u64 (m.b.toNat:Int)), .v (.int .u64 (m.c.toNat:Int)), .v (.int .u64 (m.d.toNat:Int))]


theorem xround_t (m:Mix):Triple Tryz.prog 187 [.agg (mixC m)] [] 0 (.agg (mixC (mixF m))) []:=by
 obtain ⟨a,b,c,d⟩:=m
 obtain ⟨d1,hd1⟩:∃ x,x=rotF (d ^^^ (a+b)) 32:=⟨_,rfl⟩
 obtain ⟨b1,hb1⟩:∃ x,x=rotF (b ^^^ (c+d1)) 40:=⟨_,rfl⟩
 obtain ⟨d2,hd2⟩:∃ x,x=rotF (d1 ^^^ (a+b+b1)) 48:=⟨_,rfl⟩
 obtain ⟨b2,hb2⟩:∃ x,x=rotF (b1 ^^^ (c+d1+d2)) 1:=⟨_,rfl⟩
 have hmix:mixF ⟨a,b,c,d⟩=⟨a+b+b1,b2,c+d1+d2,d2⟩:=by rw [hb2,hd2,hb1,hd1]; rfl
 rw [hmix]
 refine triple_of tB_ok Tryz.func187 rfl Tryz.call187 rfl ?_
 intro ρ w hH
 conv=>whnf
 refine⟨_,u64_add _ _, ?_⟩
 conv=>whnf
 refine⟨_,u64_xor _ _, ?_⟩
 conv=>whnf
 refine call_step (xturn_t (d ^^^ (a+b)) 32 (by decide) (by decide)) rfl rfl ?_
 rw [← hd1]
 conv=>whnf
 refine⟨?_, ?_, ?_⟩
 iterate 2 · repeat'(first|exact trivial|exact rfl|refine And.intro ?_ ?_|((conv=>whnf);first|exact trivial|exact rfl|refine And.intro ?_ ?_|omega))
 conv=>whnf
 refine⟨_,u64_add _ _, ?_⟩
 conv=>whnf
 refine⟨_,u64_xor _ _, ?_⟩
 conv=>whnf
 refine call_step (xturn_t (b ^^^ (c+d1)) 40 (by decide) (by decide)) rfl rfl ?_
 rw [← hb1]
 conv=>whnf
 refine⟨?_, ?_, ?_⟩
 iterate 2 · repeat'(first|exact trivial|exact rfl|refine And.intro ?_ ?_|((conv=>whnf);first|exact trivial|exact rfl|refine And.intro ?_ ?_|omega))
 conv=>whnf
 refine⟨_,u64_add _ _, ?_⟩
 conv=>whnf
 refine⟨_,u64_xor _ _, ?_⟩
 conv=>whnf
 refine call_step (xturn_t (d1 ^^^ ((a+b)+b1)) 48 (by decide) (by decide)) rfl rfl ?_
 rw [← hd2]
 conv=>whnf
 refine⟨?_, ?_, ?_⟩
 iterate 2 · repeat'(first|exact trivial|exact rfl|refine And.intro ?_ ?_|((conv=>whnf);first|exact trivial|exact rfl|refine And.intro ?_ ?_|omega))
 conv=>whnf
 refine⟨_,u64_add _ _, ?_⟩
 conv=>whnf
 refine⟨_,u64_xor _ _, ?_⟩
 conv=>whnf
 refine call_step (xturn_t (b1 ^^^ ((c+d1)+d2)) 1 (by decide) (by decide)) rfl rfl ?_
 rw [← hb2]
 conv=>whnf
 refine⟨?_, ?_, ?_⟩
 iterate 2 · repeat'(first|exact trivial|exact rfl|refine And.intro ?_ ?_|((conv=>whnf);first|exact trivial|exact rfl|refine And.intro ?_ ?_|omega))
 conv=>whnf
 repeat'(first|exact trivial|exact rfl|refine And.intro ?_ ?_|((conv=>whnf);first|exact trivial|exact rfl|refine And.intro ?_ ?_|omega))

theorem xabsorb_t (m:Mix) (v:UInt64):Triple Tryz.prog 169 [.agg (mixC m),uv v] [] 0 (.agg (mixC (absorbF m v))) []:=by
 rw [show absorbF m v=mixF (mixF { m with a:=m.a ^^^ v }) from rfl]
 refine triple_of tB_ok Tryz.func169 rfl Tryz.call169 rfl ?_
 intro ρ w hH
 conv=>whnf
 refine⟨_,u64_xor _ _, ?_⟩
 generalize hx:({ m with a:=m.a ^^^ v }:Mix)=x
 have e1:m.a ^^^ v=x.a:=by rw [← hx]
 have e2:m.b=x.b:=by rw [← hx]
 have e3:m.c=x.c:=by rw [← hx]
 have e4:m.d=x.d:=by rw [← hx]
 rw [e1]
 dsimp only [mixC]
 rw [e2,e3,e4]
 conv=>whnf
 refine call_step (xround_t x) rfl rfl ?_
 conv=>whnf
 refine⟨?_, ?_, ?_⟩
 iterate 2 · repeat'(first|exact trivial|exact rfl|refine And.intro ?_ ?_|((conv=>whnf);first|exact trivial|exact rfl|refine And.intro ?_ ?_|omega))
 generalize mixF x=y
 conv=>whnf
 refine call_step (xround_t y) rfl rfl ?_
 conv=>whnf
 refine⟨?_, ?_, ?_⟩
 iterate 2 · repeat'(first|exact trivial|exact rfl|refine And.intro ?_ ?_|((conv=>whnf);first|exact trivial|exact rfl|refine And.intro ?_ ?_|omega))
 generalize mixF y=z
 conv=>whnf
 repeat'(first|exact trivial|exact rfl|refine And.intro ?_ ?_|((conv=>whnf);first|exact trivial|exact rfl|refine And.intro ?_ ?_|omega))

theorem xstream_t (tag:Int) (ht:0≤tag∧tag≤1000) (ps:List (List UInt8)) (hp:Short ps) :
  Triple Tryz.prog 168 [iv .i64 tag, .c (.s 0 0 ps.length 1)] [(0,false, .arr (aStr ps))] 1 (strV (bytesF tag ps)) []:=by
 have hps:=hp.1
 have hlen:=bytesF_len (tag:=tag) hp
 have hpre:∀ i,i≤ps.length → (intF tag ++ intF (ps.length:Int) ++ ((ps.take i).map textF).flatten).length≤1001100000:=by
  intro i hi
  have h1:=intF_length tag
  have h2:=intF_length (ps.length:Int)
  have h3:=flat_len (ps.take i) (fun p hp'=>hp.2 p (List.mem_of_mem_take hp'))
  rw [List.length_append,List.length_append]
  rw [List.length_take] at h3
  have:min i ps.length * 1000011≤1000 * 1000011:=Nat.mul_le_mul (by omega) (Nat.le_refl _)
  omega
 refine triple_of tB_ok Tryz.func168 rfl Tryz.call168 rfl ?_
 intro ρ w hH
 conv=>whnf
 refine call_step (xint_t tag ⟨by omega,by omega⟩) rfl rfl ?_
 conv=>whnf
 refine⟨?_, ?_, ?_⟩
 iterate 2 · repeat'(first|exact trivial|exact rfl|refine And.intro ?_ ?_|((conv=>whnf);first|exact trivial|exact rfl|refine And.intro ?_ ?_|omega))
 conv=>whnf
 refine call_step (xint_t (ps.length:Int) ⟨by omega,by omega⟩) rfl rfl ?_
 conv=>whnf
 refine⟨?_, ?_, ?_⟩
 iterate 2 · repeat'(first|exact trivial|exact rfl|refine And.intro ?_ ?_|((conv=>whnf);first|exact trivial|exact rfl|refine And.intro ?_ ?_|omega))
 conv=>whnf
 refine cat_step (l:=intF tag) (l':=intF (ps.length:Int)) rfl rfl rfl (by have:=intF_length tag; have:=intF_length (ps.length:Int); omega) ?_
 conv=>whnf
 refine loop_step tB_ok (G:=Nat) 0 [] (fun i=>[(6,iv .i64 i),(5,strV (intF tag ++ intF (ps.length:Int) ++ ((ps.take i).map textF).flatten))]) (fun _=>[]) (fun i=>i≤ps.length) (fun i=>ps.length - i) ?_
 conv=>whnf
 refine⟨⟨0,Nat.zero_le _, ?_⟩, ?_⟩
 ·dsimp only
  rw [show intF tag ++ intF (ps.length:Int) ++ ((ps.take 0).map textF).flatten=intF tag ++ intF (ps.length:Int) from by simp]
  conv=>whnf
  repeat'(first|exact trivial|exact rfl|refine And.intro ?_ ?_|((conv=>whnf);first|exact trivial|exact rfl|refine And.intro ?_ ?_|omega))
 intro i hi ρ1 t1 hρ1
 have hi:i≤ps.length:=hi
 conv=>whnf
 refine⟨fun hc=>?_,fun hc=>?_⟩
 ·have h:i < ps.length:=by have:=of_decide_eq_true hc; omega
  have hpi:=hpre i hi
  have hst:intF tag ++ intF (ps.length:Int) ++ ((ps.take (i+1)).map textF).flatten=(intF tag ++ intF (ps.length:Int) ++ ((ps.take i).map textF).flatten) ++ textF ps[i]:=by
   rw [flat_take h,← List.append_assoc]
  have hpl:=hp.2 ps[i] (List.getElem_mem h)
  have htl:=textF_length ps[i]
  generalize intF tag ++ intF (ps.length:Int) ++ ((ps.take i).map textF).flatten=pr at hst hpi ⊢
  conv=>whnf
  refine⟨i,rfl,h, ?_⟩
  conv=>whnf
  refine⟨h, ?_⟩
  conv=>whnf
  refine call_step (xtext_t ps[i] (by omega)) rfl rfl ?_
  generalize textF ps[i]=y at hst htl ⊢
  conv=>whnf
  refine⟨?_, ?_, ?_⟩
  iterate 2 · repeat'(first|exact trivial|exact rfl|refine And.intro ?_ ?_|((conv=>whnf);first|exact trivial|exact rfl|refine And.intro ?_ ?_|omega))
  conv=>whnf
  refine cat_step (l:=pr) (l':=y) rfl rfl rfl (by omega) ?_
  conv=>whnf
  refine⟨_,wrapId ⟨by omega,by omega⟩, ?_⟩
  refine⟨i+1,h,by show ps.length - (i+1) < ps.length - i; omega, ?_⟩
  dsimp only
  rw [hst]
  conv=>whnf
  refine⟨rfl, ?_⟩
  conv=>whnf
  repeat'(first|exact trivial|exact rfl|refine And.intro ?_ ?_|((conv=>whnf);first|exact trivial|exact rfl|refine And.intro ?_ ?_|omega))
 ·have hie:i=ps.length:=by have:=of_decide_eq_false hc; omega
  subst hie
  rw [List.take_length]
  conv=>whnf
  repeat'(first|exact trivial|exact rfl|refine And.intro ?_ ?_|((conv=>whnf);first|exact trivial|exact rfl|refine And.intro ?_ ?_|omega))

end Go.Proofs

namespace Go.Proofs
open Go.Sx

theorem spl_nil (L:List UInt8) (o:Nat):spl L o []=L:=by
 unfold spl; simp

theorem spl_snoc {L ys:List UInt8} {o:Nat} (y:UInt8) (h:o+ys.length < L.length):(spl L o ys).set (o+ys.length) y=spl L o (ys ++ [y]):=by
 have hl1:(ys ++ [y]).length=ys.length+1:=by simp
 refine List.ext_getElem? fun i=>?_
 have g1:=spl_get (xs:=L) (ys:=ys ++ [y]) (o:=o) (i:=i) (by omega)
 have g2:=spl_get (xs:=L) (ys:=ys) (o:=o) (i:=i) (by omega)
 have g3:=spl_length (xs:=L) (ys:=ys) (o:=o) (by omega)
 rw [g1,List.getElem?_set,g2,g3,hl1]
 by_cases h1:o+ys.length=i
 ·subst h1
  rw [if_pos rfl,if_pos h,if_pos (by omega),show o+ys.length - o=ys.length from by omega]
  simp
 ·rw [if_neg h1]
  by_cases h2:o≤i∧i < o+ys.length
  ·rw [if_pos h2,if_pos (by omega),List.getElem?_append_left (by omega)]
  ·rw [if_neg h2,if_neg (by omega)]

theorem spl_set_lt {L ys:List UInt8} {o k:Nat} (y:UInt8) (hk:k < o) (h:o+ys.length≤L.length):(spl L o ys).set k y=spl (L.set k y) o ys:=by
 refine List.ext_getElem? fun i=>?_
 have g1:=spl_get (xs:=L) (ys:=ys) (o:=o) (i:=i) h
 have g2:=spl_get (xs:=L.set k y) (ys:=ys) (o:=o) (i:=i) (by rw [List.length_set]; exact h)
 have g3:=spl_length (xs:=L) (ys:=ys) (o:=o) h
 rw [g2,List.getElem?_set,g1,g3,List.getElem?_set]
 by_cases h1:k=i
 ·subst h1
  have h2:¬ (o≤k∧k < o+ys.length):=by omega
  rw [if_pos rfl,if_neg h2,if_pos rfl]
 ·rw [if_neg h1,if_neg h1]

theorem take_next {ys:List UInt8} {i:Nat} (h:i < ys.length):ys.take (i+1)=ys.take i ++ [ys[i]]:=take_snoc h

theorem spl_step {L ys:List UInt8} {o i:Nat} (hi:i < ys.length) (h:o+ys.length≤L.length):(spl L o (ys.take i)).set (o+i) ys[i]=spl L o (ys.take (i+1)):=by
 have hl:(ys.take i).length=i:=by rw [List.length_take]; omega
 have:=@spl_snoc L (ys.take i) o ys[i] (by rw [hl]; omega)
 rw [hl] at this
 rw [take_next hi,this]

theorem setF_get?:∀ (n:Nat) (x:UInt64) (i:Nat),i < n → n≤8 → (setF n x)[i]? = some (x >>> UInt64.ofNat (8 * (n - 1 - i))).toUInt8
 | 0,_,i,h,_=>by omega
 | n+1,x,i,h,hn=>by
  show (setF n (x >>> UInt64.ofNat 8) ++ [x.toUInt8])[i]? = _
  have hl:=setF_length n (x >>> UInt64.ofNat 8)
  by_cases h1:i < n
  ·rw [List.getElem?_append_left (by omega),setF_get? n _ i h1 (by omega)]
   congr 2
   have hs:∀ (z:UInt64) (k:Nat),k < 64 → (z >>> UInt64.ofNat k).toNat=z.toNat / 2 ^ k:=fun z k hk=>by
    rw [UInt64.toNat_shiftRight]
    have:(UInt64.ofNat k).toNat % 64=k:=by rw [UInt64.toNat_ofNat']; omega
    rw [this,Nat.shiftRight_eq_div_pow]
   refine UInt64.toNat_inj.1 ?_
   rw [hs _ _ (by omega),hs _ _ (by omega),hs _ _ (by omega),Nat.div_div_eq_div_mul,← Nat.pow_add,show 8+8 * (n - 1 - i)=8 * (n+1 - 1 - i) from by omega]
  ·have hi:i=n:=by omega
   subst hi
   rw [List.getElem?_append_right (by omega),hl]
   simp

theorem setF_get (n:Nat) (x:UInt64) (i:Nat) (h:i < (setF n x).length) (hn:n≤8):(setF n x)[i]=(x >>> UInt64.ofNat (8 * (n - 1 - i))).toUInt8:=by
 have h1:=setF_length n x
 have:=setF_get? n x i (by omega) hn
 rw [List.getElem?_eq_getElem h] at this
 exact Option.some.inj this

theorem shl_nat (b:UInt8) (k:Nat) (h:k≤56):(b.toUInt64 <<< UInt64.ofNat k).toNat=b.toNat * 2 ^ k:=by
 rw [UInt64.toNat_shiftLeft]
 have e:(UInt64.ofNat k).toNat % 64=k:=by rw [UInt64.toNat_ofNat']; omega
 rw [e,Nat.shiftLeft_eq,UInt8.toNat_toUInt64]
 refine Nat.mod_eq_of_lt ?_
 have h1:=u8_lt b
 have h2:2 ^ k≤2 ^ 56:=Nat.pow_le_pow_right (by decide) h
 calc b.toNat * 2 ^ k≤255 * 2 ^ 56:=Nat.mul_le_mul (by omega) h2
  _ < 2 ^ 64:=by decide

theorem or_nat {x:UInt64} (b:UInt8) {k:Nat} (h:k≤56) (hx:x.toNat < 2 ^ k):(x ||| b.toUInt64 <<< UInt64.ofNat k).toNat=x.toNat+b.toNat * 2 ^ k:=by
 rw [UInt64.toNat_or,shl_nat b k h,Nat.or_comm,Nat.mul_comm,← Nat.two_pow_add_eq_or_of_lt hx]; omega

theorem orF_lt (l:List UInt8):∀ n,n≤8 → n≤l.length → (orF (l.take n)).toNat < 2 ^ (8 * n)
 | 0,_,_=>by simp [orF]
 | n+1,hn,hl=>by
  have ih:=orF_lt l n (by omega) (by omega)
  rw [take_snoc (by omega),orF_snoc,List.length_take,Nat.min_eq_left (by omega),or_nat _ (by omega) ih]
  have h1:=u8_lt (l[n]'(by omega))
  have e:2 ^ (8 * (n+1))=256 * 2 ^ (8 * n):=by rw [show 8 * (n+1)=8+8 * n from by omega,Nat.pow_add]
  rw [e]
  have:(l[n]'(by omega)).toNat * 2 ^ (8 * n)≤255 * 2 ^ (8 * n):=Nat.mul_le_mul (by omega) (Nat.le_refl _)
  omega

theorem or_add {x:UInt64} (b:UInt8) {k:Nat} (h:k≤56) (hx:x.toNat < 2 ^ k):IntKind.u64.wrap ((x.toNat:Int)+((b.toUInt64 <<< UInt64.ofNat k).toNat:Int))=((x ||| b.toUInt64 <<< UInt64.ofNat k).toNat:Int):=by
 rw [wrap_u64,shl_nat b k h]
 have e:=or_nat b h hx
 have:=(x ||| b.toUInt64 <<< UInt64.ofNat k).toNat_lt
 rw [e] at this ⊢
 omega

def pairN (L:List UInt8) (o1:Nat) (B:List UInt8) (o2:Nat) (D:List UInt8) (i:Nat):List UInt8:=spl (spl L o1 (B.take i)) o2 (D.take i)

theorem pairN_len {L B D:List UInt8} {o1 o2:Nat} (hB:B.length=8) (hD:D.length=8) (h1:o1+8≤L.length) (h2:o2+8≤L.length) (i:Nat):(pairN L o1 B o2 D i).length=L.length:=by
 have e1:(spl L o1 (B.take i)).length=L.length:=spl_length (by rw [List.length_take]; omega)
 unfold pairN
 rw [spl_length (by rw [e1,List.length_take]; omega),e1]

theorem pairN_step {L B D:List UInt8} {o1 o2:Nat} (hB:B.length=8) (hD:D.length=8) (h1:o1+8≤o2) (h2:o2+8≤L.length) (i:Nat) (hi:i < 8) :
  ((pairN L o1 B o2 D i).set (o1+i) (B[i]'(by omega))).set (o2+i) (D[i]'(by omega))=pairN L o1 B o2 D (i+1):=by
 have e1:(spl L o1 (B.take i)).length=L.length:=spl_length (by rw [List.length_take]; omega)
 have e1':(spl L o1 (B.take (i+1))).length=L.length:=spl_length (by rw [List.length_take]; omega)
 unfold pairN
 rw [spl_set_lt _ (by omega) (by rw [e1,List.length_take]; omega),@spl_step L B o1 i (by omega) (by omega),@spl_step (spl L o1 (B.take (i+1))) D o2 i (by omega) (by rw [e1']; omega)]


theorem xsum_t (tag:Int) (ht:0≤tag∧tag≤1000) (ps:List (List UInt8)) (hp:Short ps) :
  Triple Tryz.prog 123 [iv .i64 tag, .c (.s 0 0 ps.length 1)] [(0,false, .arr (aStr ps))] 1 (arrS (sumF tag ps)) []:=by
 have hlen:=bytesF_len (tag:=tag) hp
 refine triple_of tB_ok Tryz.func123 rfl Tryz.call123 rfl ?_
 intro ρ w hH
 conv=>whnf
 refine allocA_step tB_ok 16 rfl rfl rfl ?_
 conv=>whnf
 refine call_step (xstream_t tag ht ps hp) rfl rfl ?_
 conv=>whnf
 refine⟨?_, ?_, ?_⟩
 iterate 2 · repeat'(first|exact trivial|exact rfl|refine And.intro ?_ ?_|((conv=>whnf);first|exact trivial|exact rfl|refine And.intro ?_ ?_|omega))
 have hsum:sumF tag ps=setF 8 (endF (bytesF tag ps)).b ++ setF 8 (endF (bytesF tag ps)).d:=rfl
 rw [hsum]
 generalize bytesF tag ps=s at hlen ⊢
 conv=>whnf
 refine loop_step tB_ok (G:=Nat) 0 [] (fun j=>[(7,iv .i64 (8 * (j:Int)))]) (fun j=>[(2,true, .cells (mixC (mixN s j)))])
  (fun j=>j≤(s.length+7) / 8) (fun j=>(s.length+7) / 8 - j) ?_
 conv=>whnf
 refine⟨⟨0,Nat.zero_le _, ?_⟩, ?_⟩
 ·conv=>whnf
  repeat'(first|exact trivial|exact rfl|refine And.intro ?_ ?_|((conv=>whnf);first|exact trivial|exact rfl|refine And.intro ?_ ?_|omega))
 intro j hj ρ2 t2 hρ2
 conv=>whnf
 refine⟨fun hc=>?_,fun hc=>?_⟩
 ·have hlt:8 * j < s.length:=by
   have hc:decide (8 * (j:Int) < (s.length:Int))=true:=hc
   simp at hc; omega
  conv=>whnf
  refine loop_step tB_ok (G:=Nat) 0 [] (fun i=>[(9,iv .i64 i),(8,uv (orF ((s.drop (8 * j)).take i)))]) (fun _=>[]) (fun i=>i≤8∧8 * j+i≤s.length) (fun i=>8 - i) ?_
  conv=>whnf
  refine⟨⟨0,⟨by omega,by omega⟩, ?_⟩, ?_⟩
  ·conv=>whnf
   repeat'(first|exact trivial|exact rfl|refine And.intro ?_ ?_|((conv=>whnf);first|exact trivial|exact rfl|refine And.intro ?_ ?_|omega))
  rintro i ⟨hi,hil⟩ ρ3 t3 hρ3
  conv=>whnf
  refine⟨fun hc=>?_,fun hc=>?_⟩
  rotate_left
  ·have hie:i=min 8 (s.length - 8 * j):=by have:=of_decide_eq_false hc; omega
   conv=>whnf
   rw [wordF_end hie]
   conv=>whnf
   refine call_step (xabsorb_t (mixN s j) (wordF s j)) rfl rfl ?_
   rw [← mixN_succ]
   conv=>whnf
   refine⟨?_, ?_, ?_⟩
   iterate 2 · repeat'(first|exact trivial|exact rfl|refine And.intro ?_ ?_|((conv=>whnf);first|exact trivial|exact rfl|refine And.intro ?_ ?_|omega))
   conv=>whnf
   refine⟨_,wrapId ⟨by omega,by omega⟩, ?_⟩
   refine⟨j+1,by omega,by show (s.length+7) / 8 - (j+1) < (s.length+7) / 8 - j; omega, ?_⟩
   dsimp only
   conv=>whnf
   refine⟨rfl, ?_⟩
   conv=>whnf
   repeat'(first|exact trivial|exact rfl|refine And.intro ?_ ?_|((conv=>whnf);first|exact trivial|exact rfl|refine And.intro ?_ ?_|omega))
  have h8:i < 8:=by have:=of_decide_eq_true hc; omega
  conv=>whnf
  refine⟨((8 * j+i:Nat):Int),by rw [show 8 * (j:Int)+(i:Int)=((8 * j+i:Nat):Int) from by omega]; exact wrapId ⟨by omega,by omega⟩, ?_⟩
  conv=>whnf
  refine⟨fun hc=>?_,fun hc=>?_⟩
  rotate_left
  ·have hc:decide (((8 * j+i:Nat):Int) < (s.length:Int))=false:=hc
   have hie:i=min 8 (s.length - 8 * j):=by have:=of_decide_eq_false hc; omega
   conv=>whnf
   rw [wordF_end hie]
   conv=>whnf
   refine call_step (xabsorb_t (mixN s j) (wordF s j)) rfl rfl ?_
   rw [← mixN_succ]
   conv=>whnf
   refine⟨?_, ?_, ?_⟩
   iterate 2 · repeat'(first|exact trivial|exact rfl|refine And.intro ?_ ?_|((conv=>whnf);first|exact trivial|exact rfl|refine And.intro ?_ ?_|omega))
   conv=>whnf
   refine⟨_,wrapId ⟨by omega,by omega⟩, ?_⟩
   refine⟨j+1,by omega,by show (s.length+7) / 8 - (j+1) < (s.length+7) / 8 - j; omega, ?_⟩
   dsimp only
   conv=>whnf
   refine⟨rfl, ?_⟩
   conv=>whnf
   repeat'(first|exact trivial|exact rfl|refine And.intro ?_ ?_|((conv=>whnf);first|exact trivial|exact rfl|refine And.intro ?_ ?_|omega))
  have hc:decide (((8 * j+i:Nat):Int) < (s.length:Int))=true:=hc
  have hs1:8 * j+i < s.length:=by have:=of_decide_eq_true hc; omega
  have hor:(orF ((s.drop (8 * j)).take i)).toNat < 2 ^ (8 * i):=orF_lt _ i (by omega) (by rw [List.length_drop]; omega)
  have hws:=wordF_step hs1 h8
  generalize orF ((s.drop (8 * j)).take i)=v at hor hws ⊢
  conv=>whnf
  refine⟨((8 * j+i:Nat):Int),by rw [show 8 * (j:Int)+(i:Int)=((8 * j+i:Nat):Int) from by omega]; exact wrapId ⟨by omega,by omega⟩, ?_⟩
  conv=>whnf
  refine sidx_step (l:=s) tB_ok rfl rfl rfl rfl (8 * j+i) rfl hs1 ?_
  conv=>whnf
  refine⟨_,u8_to64 _, ?_⟩
  conv=>whnf
  refine⟨((8 * i:Nat):Int),by rw [wrapId ⟨by omega,by omega⟩]; push_cast; rfl, ?_⟩
  conv=>whnf
  refine⟨by omega,_,u64_shl _ (8 * i) (by omega), ?_⟩
  conv=>whnf
  refine⟨_,or_add (s[8 * j+i]'hs1) (by omega) hor, ?_⟩
  conv=>whnf
  refine⟨_,wrapId ⟨by omega,by omega⟩, ?_⟩
  refine⟨i+1,⟨by omega,by omega⟩,by show 8 - (i+1) < 8 - i; omega, ?_⟩
  dsimp only
  rw [← hws]
  conv=>whnf
  refine⟨rfl, ?_⟩
  conv=>whnf
  repeat'(first|exact trivial|exact rfl|refine And.intro ?_ ?_|((conv=>whnf);first|exact trivial|exact rfl|refine And.intro ?_ ?_|omega))
 ·have hc:decide (8 * (j:Int) < (s.length:Int))=false:=hc
  have hje:j=(s.length+7) / 8:=by simp at hc; omega
  subst hje
  conv=>whnf
  refine⟨((UInt64.ofNat s.length).toNat:Int),by rw [wrap_u64,UInt64.toNat_ofNat']; show (s.length:Int) % _=_; omega, ?_⟩
  rw [show endF s=absorbF (absorbF (absorbF (absorbF (mixN s ((s.length+7) / 8)) (UInt64.ofNat s.length)) 0) 0) 0 from rfl]
  generalize mixN s ((s.length+7) / 8)=m0
  conv=>whnf
  refine call_step (xabsorb_t m0 (UInt64.ofNat s.length)) rfl rfl ?_
  generalize absorbF m0 (UInt64.ofNat s.length)=m1
  conv=>whnf
  refine⟨?_, ?_, ?_⟩
  iterate 2 · repeat'(first|exact trivial|exact rfl|refine And.intro ?_ ?_|((conv=>whnf);first|exact trivial|exact rfl|refine And.intro ?_ ?_|omega))
  conv=>whnf
  refine call_step (xabsorb_t m1 0) rfl rfl ?_
  generalize absorbF m1 0=m2
  conv=>whnf
  refine⟨?_, ?_, ?_⟩
  iterate 2 · repeat'(first|exact trivial|exact rfl|refine And.intro ?_ ?_|((conv=>whnf);first|exact trivial|exact rfl|refine And.intro ?_ ?_|omega))
  conv=>whnf
  refine call_step (xabsorb_t m2 0) rfl rfl ?_
  generalize absorbF m2 0=m3
  conv=>whnf
  refine⟨?_, ?_, ?_⟩
  iterate 2 · repeat'(first|exact trivial|exact rfl|refine And.intro ?_ ?_|((conv=>whnf);first|exact trivial|exact rfl|refine And.intro ?_ ?_|omega))
  conv=>whnf
  refine call_step (xabsorb_t m3 0) rfl rfl ?_
  generalize absorbF m3 0=m4
  conv=>whnf
  refine⟨?_, ?_, ?_⟩
  iterate 2 · repeat'(first|exact trivial|exact rfl|refine And.intro ?_ ?_|((conv=>whnf);first|exact trivial|exact rfl|refine And.intro ?_ ?_|omega))
  conv=>whnf
  refine buildA_step tB_ok rfl rfl rfl rfl ?_
  conv=>whnf
  refine allocA_step tB_ok 16 rfl rfl rfl ?_
  conv=>whnf
  refine storeA_step (l':=zero16) tB_ok rfl rfl rfl rfl rfl (by simp) (by simp [zero16]) (by decide) ?_
  have hB:=setF_length 8 m4.b
  have hD:=setF_length 8 m4.d
  have hend:pairN zero16 0 (setF 8 m4.b) 8 (setF 8 m4.d) 8=setF 8 m4.b ++ setF 8 m4.d:=by
   unfold pairN
   rw [List.take_of_length_le (by omega),List.take_of_length_le (by omega)]
   generalize setF 8 m4.b=B at hB ⊢
   generalize setF 8 m4.d=D at hD ⊢
   refine List.ext_getElem? fun i=>?_
   have g0:=spl_length (xs:=zero16) (ys:=B) (o:=0) (by rw [hB]; decide)
   have gz:zero16.length=16:=rfl
   have g1:=spl_get (xs:=spl zero16 0 B) (ys:=D) (o:=8) (i:=i) (by omega)
   have g2:=spl_get (xs:=zero16) (ys:=B) (o:=0) (i:=i) (by omega)
   rw [g1,g2]
   by_cases c1:i < 8
   ·rw [if_neg (by omega),if_pos (by omega),List.getElem?_append_left (by omega)]; rfl
   ·rw [List.getElem?_append_right (by omega),hB]
    by_cases c2:i < 16
    ·rw [if_pos (by omega)]
    ·rw [if_neg (by omega),if_neg (by omega),List.getElem?_eq_none (by omega),List.getElem?_eq_none (by omega)]
  conv=>whnf
  refine loop_step tB_ok (G:=Nat) 0 [] (fun i=>[(11,iv .i64 i)]) (fun i=>[(3,true, .arr (aU8 (some 16) (pairN zero16 0 (setF 8 m4.b) 8 (setF 8 m4.d) i)))]) (fun i=>i≤8) (fun i=>8 - i) ?_
  conv=>whnf
  refine⟨⟨0,Nat.zero_le _, ?_⟩, ?_⟩
  ·conv=>whnf
   repeat'(first|exact trivial|exact rfl|refine And.intro ?_ ?_|((conv=>whnf);first|exact trivial|exact rfl|refine And.intro ?_ ?_|omega))
  intro i hi ρ3 t3 hρ3
  have hi:i≤8:=hi
  have hpl:=pairN_len (L:=zero16) hB hD (o1:=0) (o2:=8) (by decide) (by decide) i
  have gz:zero16.length=16:=rfl
  conv=>whnf
  refine⟨fun hc=>?_,fun hc=>?_⟩
  ·have h:i < 8:=by have:=of_decide_eq_true hc; omega
   have hst:=pairN_step (L:=zero16) hB hD (o1:=0) (o2:=8) (by decide) (by decide) i h
   have gb:=setF_get 8 m4.b i (by omega) (by decide)
   have gd:=setF_get 8 m4.d i (by omega) (by decide)
   rw [gb,gd,Nat.zero_add] at hst
   generalize pairN zero16 0 (setF 8 m4.b) 8 (setF 8 m4.d) i=P at hst hpl ⊢
   conv=>whnf
   refine⟨((8 * i:Nat):Int),by rw [wrapId ⟨by omega,by omega⟩]; push_cast; rfl, ?_⟩
   conv=>whnf
   refine⟨((8 * (8 - 1 - i):Nat):Int),by rw [wrapId ⟨by omega,by omega⟩]; omega, ?_⟩
   conv=>whnf
   refine⟨by omega,_,u64_shr _ (8 * (8 - 1 - i)) (by omega), ?_⟩
   conv=>whnf
   refine⟨_,u64_to8 _, ?_⟩
   conv=>whnf
   refine iaA_step tB_ok rfl rfl rfl rfl rfl rfl i rfl (by omega) ?_
   conv=>whnf
   refine⟨by show i < P.length; omega,_,rfl, ?_⟩
   conv=>whnf
   refine⟨((8+i:Nat):Int),by rw [wrapId ⟨by omega,by omega⟩]; push_cast; rfl, ?_⟩
   conv=>whnf
   refine⟨((8 * i:Nat):Int),by rw [wrapId ⟨by omega,by omega⟩]; push_cast; rfl, ?_⟩
   conv=>whnf
   refine⟨((8 * (8 - 1 - i):Nat):Int),by rw [wrapId ⟨by omega,by omega⟩]; omega, ?_⟩
   conv=>whnf
   refine⟨by omega,_,u64_shr _ (8 * (8 - 1 - i)) (by omega), ?_⟩
   conv=>whnf
   refine⟨_,u64_to8 _, ?_⟩
   conv=>whnf
   refine iaA_step tB_ok rfl rfl rfl rfl rfl rfl (8+i) rfl (by omega) ?_
   conv=>whnf
   refine⟨by show 8+i < (P.set i _).length; rw [List.length_set]; omega,_,rfl, ?_⟩
   conv=>whnf
   refine⟨_,wrapId ⟨by omega,by omega⟩, ?_⟩
   refine⟨i+1,h,by show 8 - (i+1) < 8 - i; omega, ?_⟩
   dsimp only
   rw [← hst]
   conv=>whnf
   refine⟨rfl, ?_⟩
   conv=>whnf
   repeat'(first|exact trivial|exact rfl|refine And.intro ?_ ?_|((conv=>whnf);first|exact trivial|exact rfl|refine And.intro ?_ ?_|omega))
  ·have hie:i=8:=by have:=of_decide_eq_false hc; omega
   subst hie
   rw [hend]
   have hl2:(setF 8 m4.b ++ setF 8 m4.d).length=16:=by rw [List.length_append,hB,hD]
   generalize setF 8 m4.b ++ setF 8 m4.d=L at hl2 ⊢
   conv=>whnf
   refine loadA_step (l:=L) tB_ok rfl rfl rfl rfl rfl hl2.symm ?_
   conv=>whnf
   refine storeA_step (l':=L) tB_ok rfl rfl rfl rfl rfl (by simp) (by rw [hl2]; simp) (by decide) ?_
   conv=>whnf
   refine⟨bytesV L,⟨(res_bytes hl2).1,(by rw [bytesV_length,hl2]),rfl⟩, ?_⟩
   conv=>whnf
   repeat'(first|exact trivial|exact rfl|refine And.intro ?_ ?_|((conv=>whnf);first|exact trivial|exact rfl|refine And.intro ?_ ?_|omega))

end Go.Proofs

