/-
  A part of the proof that a law answers true: lemmas of a symbolic walk, plain functions, or contracts of the functions walked (QC). Conditions: none.
-/
import Derived.Test.YtfcdjkeamldkaaaGreatPart20
set_option maxRecDepth 100000
set_option linter.unusedVariables false
set_option linter.unusedSimpArgs false
namespace Go.Proofs
open Go.Sx


theorem xappend_t (D:Dk) (hd:6≤D.length∧D.length≤65536) (x:Xl) (hss:x.sess≤4611686018427387904) (ks:List Xk) (hk:ks.length≤100000) (hbf:∀ i,i≤ks.length → framesF ks i≤1000000) (q:Nat) (link:List UInt8) (hq:x.first+framesF ks ks.length=q) (he:xlinkF x ks=link) (hlk:link.length=8)
  (hqb:q≤1000000) (s:List UInt8) (hsl:s.length≤6000) (hroom:framesF ks ks.length+nfr s≤D.length - 2) (hfree:Free D D.length q (nfr s)) :
  Triple Tryz.prog 77 [.c (.p 3 0 0 0),strV s] (xlH true D.length D x ks) 5 (iv .i64 0)
   [(0,true,dskC 1 D.length),(1,true,dkR 5 (apF D.length x.sess s ⟨D,q,link⟩ (nfr s)).D),(5,true,dkB (apF D.length x.sess s ⟨D,q,link⟩ (nfr s)).D),
    (3,true, .cells (xlC D.length x 6 (ks.length+1))),(6,true, .arr (aXk (ks ++ [⟨s,nfr s,(apF D.length x.sess s ⟨D,q,link⟩ (nfr s)).link⟩])))]:=by
 have hfr:=xframes_t D D.length x ks hbf hk
 have hrm:=xroom_t D D.length hd x ks hbf hk
 have hlt:=xlink_t D D.length x ks hk
 rw [he] at hlt
 have hn1:1≤nfr s:=by unfold nfr; omega
 have hnS:nfr s≤67:=by unfold nfr; omega
 have hI:=apF_I (sess:=x.sess) (s:=s) (a:=⟨D,q,link⟩) (q0:=q) (m:=nfr s) (n:=D.length) ⟨rfl,rfl,hlk,hfree⟩ (by omega)
 generalize framesF ks ks.length=F at hfr hrm hq hroom
 refine triple_of tB_ok Tryz.func77 rfl Tryz.call77 rfl ?_
 intro ρ w hH
 conv=>whnf
 refine⟨fun hc=>?_,fun hc=>?_⟩
 ·have hc:decide ((6000:Int) < (s.length:Int))=true:=hc
  exact absurd (of_decide_eq_true hc) (by omega)
 conv=>whnf
 refine⟨((s.length+89:Nat):Int),by show IntKind.i64.wrap ((s.length:Int)+89)=_; rw [show (s.length:Int)+89=((s.length+89:Nat):Int) from by omega]; exact wrapId ⟨by omega,by omega⟩, ?_⟩
 conv=>whnf
 refine⟨by decide,(((s.length+89) / 90:Nat):Int),by rw [show ((s.length+89:Nat):Int).tdiv 90=(((s.length+89) / 90:Nat):Int) from (Int.ofNat_tdiv (s.length+89) 90).symm]; exact wrapId ⟨by omega,by omega⟩, ?_⟩
 conv=>whnf
 have hmx:max (1:Int) (((s.length+89) / 90:Nat):Int)=((nfr s:Nat):Int):=by unfold nfr; omega
 rw [hmx]
 generalize hm:nfr s=m at hroom hfree hn1 hnS hI ⊢
 conv=>whnf
 refine call_step hrm rfl rfl ?_
 conv=>whnf
 refine⟨(by repeat' (first | exact (aRow_ren rfl) | exact trivial | exact rfl | refine And.intro ?_ ?_ | ((conv=>whnf); first | exact (aRow_ren rfl) | exact trivial | exact rfl | refine And.intro ?_ ?_ | omega))),(by repeat' (first | exact (aRow_ren rfl) | exact trivial | exact rfl | refine And.intro ?_ ?_ | ((conv=>whnf); first | exact (aRow_ren rfl) | exact trivial | exact rfl | refine And.intro ?_ ?_ | omega))), ?_⟩
 conv=>whnf
 refine⟨fun hc=>?_,fun hc=>?_⟩
 ·exact absurd (of_decide_eq_true hc) (by omega)
 conv=>whnf
 refine call_step hfr rfl rfl ?_
 conv=>whnf
 refine⟨(by repeat' (first | exact (aRow_ren rfl) | exact trivial | exact rfl | refine And.intro ?_ ?_ | ((conv=>whnf); first | exact (aRow_ren rfl) | exact trivial | exact rfl | refine And.intro ?_ ?_ | omega))),(by repeat' (first | exact (aRow_ren rfl) | exact trivial | exact rfl | refine And.intro ?_ ?_ | ((conv=>whnf); first | exact (aRow_ren rfl) | exact trivial | exact rfl | refine And.intro ?_ ?_ | omega))), ?_⟩
 conv=>whnf
 refine⟨(q:Int),by rw [show (x.first:Int)+(F:Int)=(q:Int) from by omega]; exact wrapId ⟨by omega,by omega⟩, ?_⟩
 conv=>whnf
 refine⟨4611686018427387904 - (m:Int),wrapId ⟨by omega,by omega⟩, ?_⟩
 conv=>whnf
 refine⟨4611686018427387904 - (m:Int)+1,wrapId ⟨by omega,by omega⟩, ?_⟩
 conv=>whnf
 refine⟨fun hc=>?_,fun hc=>?_⟩
 ·exact absurd (of_decide_eq_true hc) (by omega)
 conv=>whnf
 refine call_step hlt rfl rfl ?_
 conv=>whnf
 refine⟨(by repeat' (first | exact (aRow_ren rfl) | exact trivial | exact rfl | refine And.intro ?_ ?_ | ((conv=>whnf); first | exact (aRow_ren rfl) | exact trivial | exact rfl | refine And.intro ?_ ?_ | omega))),(by repeat' (first | exact (aRow_ren rfl) | exact trivial | exact rfl | refine And.intro ?_ ?_ | ((conv=>whnf); first | exact (aRow_ren rfl) | exact trivial | exact rfl | refine And.intro ?_ ?_ | omega))), ?_⟩
 conv=>whnf
 refine loop_step tB_ok (G:=Nat × Ap) 1 [2] (fun g=>[(8,iv .i64 g.1),(7,strV g.2.link)]) (fun g=>[(0,true,dskC 1 D.length),(1,true,dkR 5 g.2.D),(5,true,dkB g.2.D)]) (fun g=>g.1≤m∧g.2=apF D.length x.sess s ⟨D,q,link⟩ g.1) (fun g=>m - g.1) ?_
 conv=>whnf
 refine⟨⟨(0,⟨D,q,link⟩),⟨Nat.zero_le _,rfl⟩, ?_⟩, ?_⟩
 ·conv=>whnf
  repeat' (first | exact (aRow_ren rfl) | exact trivial | exact rfl | refine And.intro ?_ ?_ | ((conv=>whnf); first | exact (aRow_ren rfl) | exact trivial | exact rfl | refine And.intro ?_ ?_ | omega))
 rintro ⟨k,a⟩ ⟨hkm,ha⟩ ρ1 t1 hρ1
 have hkm:k≤m:=hkm
 have ha:a=apF D.length x.sess s ⟨D,q,link⟩ k:=ha
 conv=>whnf
 refine⟨fun hc=>?_,fun hc=>?_⟩
 rotate_left
 ·have hke:k=m:=by have:=of_decide_eq_false hc; omega
  subst hke
  rw [← ha]
  conv=>whnf
  refine bs_step tB_ok (aXk [⟨s,k,a.link⟩]) rfl rfl ?_
  conv=>whnf
  refine⟨⟨rfl,(by repeat'(first|exact trivial|exact rfl|refine And.intro ?_ ?_|((conv=>whnf);first|exact trivial|exact rfl|refine And.intro ?_ ?_|omega)))⟩, ?_⟩
  generalize hr:(⟨s,k,a.link⟩:Xk)=r
  conv=>whnf
  refine appR_step tB_ok (aXk ks) [r] (ks ++ [r]) (fun _=>rfl) rfl rfl rfl rfl ?_
  conv=>whnf
  refine⟨⟨rfl,rfl,Nat.le_refl _,Nat.le_refl _,by show (ks.length+1) * 41≤140737488355328; omega,app1⟩, ?_⟩
  have e3:(ks ++ [r]).length=ks.length+1:=by rw [List.length_append]; rfl
  conv=>whnf
  repeat' (first | exact aRow_ren rfl | exact e3 | exact trivial | exact rfl | refine And.intro ?_ ?_ | ((conv=>whnf); first | exact aRow_ren rfl | exact e3 | exact trivial | exact rfl | refine And.intro ?_ ?_ | omega))
 have h:k < m:=by have:=of_decide_eq_true hc; omega
 have hAI:=hI k hkm
 rw [← ha] at hAI
 obtain ⟨hal,haq,hak,haf⟩:=hAI
 have hst:apF D.length x.sess s ⟨D,q,link⟩ (k+1)=apStep D.length x.sess s k a:=by rw [ha]; rfl
 have hml:=Nat.mod_lt a.q (show 0 < D.length - 2 by omega)
 have hcl:=chunk_le (s:=s) (k:=k) (by omega)
 have hnone:(a.D[2+a.q % (D.length - 2)]'(by rw [hal]; omega)).2=none:=by
  refine haf 0 (by omega) _ ?_
  rw [← haq]
  exact List.getElem?_eq_getElem _
 have hslt:Triple Tryz.prog 138 [.c (.p 3 0 0 0),iv .i64 ((q+k:Nat):Int)] (xlH false D.length a.D x ks) 5 (iv .i64 ((2+a.q % (D.length - 2):Nat):Int)) []:=by
  rw [haq]
  exact xslot_t a.D D.length hd x ks (q+k) (by omega)
 conv=>whnf
 by_cases h0:k=0
 ·have hk0:((k:Int) == 0)=true:=by rw [h0]; rfl
  refine⟨fun hc=>?_,fun hc=>absurd (show ((k:Int) == 0)=false from hc) (by rw [hk0]; decide)⟩
  conv=>whnf
  refine⟨((0 ||| 1:UInt8).toNat:Int),by decide, ?_⟩
  conv=>whnf
  refine⟨(m:Int) - 1,wrapId ⟨by omega,by omega⟩, ?_⟩
  conv=>whnf
  by_cases h1:k+1=m
  ·have hk1:((k:Int) == (m:Int) - 1)=true:=by simp; omega
   refine⟨fun hc=>?_,fun hc=>absurd (show ((k:Int) == (m:Int) - 1)=false from hc) (by rw [hk1]; decide)⟩
   conv=>whnf
   refine⟨(((0 ||| 1) ||| 2:UInt8).toNat:Int),by decide, ?_⟩
   conv=>whnf
   have hfl:flagF k (nfr s)=((0 ||| 1) ||| 2:UInt8):=by rw [hm]; simp only [flagF,if_pos h0,if_pos h1]
   refine⟨((q+k:Nat):Int),by dsimp only; rw [show (q:Int)+(k:Int)=((q+k:Nat):Int) from by omega]; exact wrapId ⟨by omega,by omega⟩, ?_⟩
   conv=>whnf
   refine⟨((k * 90:Nat):Int),by dsimp only; rw [show 90 * (k:Int)=((k * 90:Nat):Int) from by omega]; exact wrapId ⟨by omega,by omega⟩, ?_⟩
   conv=>whnf
   refine⟨((k * 90:Nat):Int),by dsimp only; rw [show 90 * (k:Int)=((k * 90:Nat):Int) from by omega]; exact wrapId ⟨by omega,by omega⟩, ?_⟩
   conv=>whnf
   refine⟨(((k+1) * 90:Nat):Int),by rw [show ((k * 90:Nat):Int)+90=(((k+1) * 90:Nat):Int) from by omega]; exact wrapId ⟨by omega,by omega⟩, ?_⟩
   conv=>whnf
   refine ssub_step (l:=s) tB_ok rfl rfl rfl ⟨min s.length ((k+1) * 90),by show min (s.length:Int) _=_; omega,by omega,k * 90,rfl,hcl, ?_⟩
   rw [show (s.take (min s.length ((k+1) * 90))).drop (k * 90)=chunkF s k from rfl]
   conv=>whnf
   refine call_step (xframe_t (q+k) x.sess (by omega) ((0 ||| 1) ||| 2:UInt8) a.link (chunkF s k) hak (chunkF_len s k)) rfl rfl ?_
   have hst':apStep D.length x.sess s k a=⟨setD a.D (2+a.q % (D.length - 2)) (frameS (q+k) x.sess ((0 ||| 1) ||| 2:UInt8) a.link (chunkF s k)),a.q+1,subL (frameS (q+k) x.sess ((0 ||| 1) ||| 2:UInt8) a.link (chunkF s k)).l 22 30⟩:=by simp only [apStep,hfl,haq]
   rw [hst'] at hst
   generalize frameS (q+k) x.sess ((0 ||| 1) ||| 2:UInt8) a.link (chunkF s k)=y at hst ⊢
   have hwt:=xwrite_t a.D (2+a.q % (D.length - 2)) (by rw [hal]; omega) hnone y
   rw [hal] at hwt
   conv=>whnf
   refine⟨?_, ?_, ?_⟩
   iterate 2 · repeat'(first|exact trivial|exact rfl|refine And.intro ?_ ?_|((conv=>whnf);first|exact trivial|exact rfl|refine And.intro ?_ ?_|omega))
   conv=>whnf
   refine allocA_step tB_ok 128 rfl rfl rfl ?_
   conv=>whnf
   refine storeA_step (l':=y.l) tB_ok rfl rfl rfl rfl rfl (by simp) (by rw [y.h]; simp) (by decide) ?_
   conv=>whnf
   refine⟨((q+k:Nat):Int),by dsimp only; rw [show (q:Int)+(k:Int)=((q+k:Nat):Int) from by omega]; exact wrapId ⟨by omega,by omega⟩, ?_⟩
   conv=>whnf
   refine call_step hslt rfl rfl ?_
   conv=>whnf
   refine⟨(by repeat' (first | exact (aRow_ren rfl) | exact trivial | exact rfl | refine And.intro ?_ ?_ | ((conv=>whnf); first | exact (aRow_ren rfl) | exact trivial | exact rfl | refine And.intro ?_ ?_ | omega))),(by repeat' (first | exact (aRow_ren rfl) | exact trivial | exact rfl | refine And.intro ?_ ?_ | ((conv=>whnf); first | exact (aRow_ren rfl) | exact trivial | exact rfl | refine And.intro ?_ ?_ | omega))), ?_⟩
   conv=>whnf
   refine⟨((2+a.q % (D.length - 2):Nat):Int),by rw [Int.zero_add]; exact wrapId ⟨by omega,by omega⟩, ?_⟩
   conv=>whnf
   refine loadA_step (l:=y.l) tB_ok rfl rfl rfl rfl rfl y.h.symm ?_
   conv=>whnf
   refine call_step hwt rfl rfl ?_
   conv=>whnf
   refine⟨(by repeat' (first | exact (aRow_ren rfl) | exact trivial | exact rfl | refine And.intro ?_ ?_ | ((conv=>whnf); first | exact (aRow_ren rfl) | exact trivial | exact rfl | refine And.intro ?_ ?_ | omega))),(by repeat' (first | exact (aRow_ren rfl) | exact trivial | exact rfl | refine And.intro ?_ ?_ | ((conv=>whnf); first | exact (aRow_ren rfl) | exact trivial | exact rfl | refine And.intro ?_ ?_ | omega))), ?_⟩
   conv=>whnf
   rw [← aRow_ren rfl]
   refine⟨fun hc=>absurd hc (by simp),fun hc=>?_⟩
   conv=>whnf
   refine slA_step (n:=128) (l:=y.l) tB_ok rfl rfl rfl rfl rfl rfl ⟨30,rfl,by decide,22,rfl,by decide, ?_⟩
   conv=>whnf
   refine b2s_step (fx:=some 128) (l:=y.l) tB_ok rfl rfl rfl rfl rfl rfl (by show 22+8≤_; rw [y.h]; decide) ?_
   rw [show (y.l.drop 22).take (subN 30 22)=subL y.l 22 30 from rfl]
   conv=>whnf
   refine⟨_,wrapId ⟨by omega,by omega⟩, ?_⟩
   refine⟨(k+1,_),⟨h,hst.symm⟩,by show m - (k+1) < m - k; omega, ?_⟩
   conv=>whnf
   refine⟨rfl, ?_⟩
   conv=>whnf
   repeat' (first | exact (aRow_ren rfl) | exact trivial | exact rfl | refine And.intro ?_ ?_ | ((conv=>whnf); first | exact (aRow_ren rfl) | exact trivial | exact rfl | refine And.intro ?_ ?_ | omega))
  ·have hk1:((k:Int) == (m:Int) - 1)=false:=by simp; omega
   refine⟨fun hc=>absurd (show ((k:Int) == (m:Int) - 1)=true from hc) (by rw [hk1]; decide),fun hc=>?_⟩
   conv=>whnf
   have hfl:flagF k (nfr s)=(0 ||| 1:UInt8):=by rw [hm]; simp only [flagF,if_pos h0,if_neg h1,u8_or0]
   refine⟨((q+k:Nat):Int),by dsimp only; rw [show (q:Int)+(k:Int)=((q+k:Nat):Int) from by omega]; exact wrapId ⟨by omega,by omega⟩, ?_⟩
   conv=>whnf
   refine⟨((k * 90:Nat):Int),by dsimp only; rw [show 90 * (k:Int)=((k * 90:Nat):Int) from by omega]; exact wrapId ⟨by omega,by omega⟩, ?_⟩
   conv=>whnf
   refine⟨((k * 90:Nat):Int),by dsimp only; rw [show 90 * (k:Int)=((k * 90:Nat):Int) from by omega]; exact wrapId ⟨by omega,by omega⟩, ?_⟩
   conv=>whnf
   refine⟨(((k+1) * 90:Nat):Int),by rw [show ((k * 90:Nat):Int)+90=(((k+1) * 90:Nat):Int) from by omega]; exact wrapId ⟨by omega,by omega⟩, ?_⟩
   conv=>whnf
   refine ssub_step (l:=s) tB_ok rfl rfl rfl ⟨min s.length ((k+1) * 90),by show min (s.length:Int) _=_; omega,by omega,k * 90,rfl,hcl, ?_⟩
   rw [show (s.take (min s.length ((k+1) * 90))).drop (k * 90)=chunkF s k from rfl]
   conv=>whnf
   refine call_step (xframe_t (q+k) x.sess (by omega) (0 ||| 1:UInt8) a.link (chunkF s k) hak (chunkF_len s k)) rfl rfl ?_
   have hst':apStep D.length x.sess s k a=⟨setD a.D (2+a.q % (D.length - 2)) (frameS (q+k) x.sess (0 ||| 1:UInt8) a.link (chunkF s k)),a.q+1,subL (frameS (q+k) x.sess (0 ||| 1:UInt8) a.link (chunkF s k)).l 22 30⟩:=by simp only [apStep,hfl,haq]
   rw [hst'] at hst
   generalize frameS (q+k) x.sess (0 ||| 1:UInt8) a.link (chunkF s k)=y at hst ⊢
   have hwt:=xwrite_t a.D (2+a.q % (D.length - 2)) (by rw [hal]; omega) hnone y
   rw [hal] at hwt
   conv=>whnf
   refine⟨?_, ?_, ?_⟩
   iterate 2 · repeat'(first|exact trivial|exact rfl|refine And.intro ?_ ?_|((conv=>whnf);first|exact trivial|exact rfl|refine And.intro ?_ ?_|omega))
   conv=>whnf
   refine allocA_step tB_ok 128 rfl rfl rfl ?_
   conv=>whnf
   refine storeA_step (l':=y.l) tB_ok rfl rfl rfl rfl rfl (by simp) (by rw [y.h]; simp) (by decide) ?_
   conv=>whnf
   refine⟨((q+k:Nat):Int),by dsimp only; rw [show (q:Int)+(k:Int)=((q+k:Nat):Int) from by omega]; exact wrapId ⟨by omega,by omega⟩, ?_⟩
   conv=>whnf
   refine call_step hslt rfl rfl ?_
   conv=>whnf
   refine⟨(by repeat' (first | exact (aRow_ren rfl) | exact trivial | exact rfl | refine And.intro ?_ ?_ | ((conv=>whnf); first | exact (aRow_ren rfl) | exact trivial | exact rfl | refine And.intro ?_ ?_ | omega))),(by repeat' (first | exact (aRow_ren rfl) | exact trivial | exact rfl | refine And.intro ?_ ?_ | ((conv=>whnf); first | exact (aRow_ren rfl) | exact trivial | exact rfl | refine And.intro ?_ ?_ | omega))), ?_⟩
   conv=>whnf
   refine⟨((2+a.q % (D.length - 2):Nat):Int),by rw [Int.zero_add]; exact wrapId ⟨by omega,by omega⟩, ?_⟩
   conv=>whnf
   refine loadA_step (l:=y.l) tB_ok rfl rfl rfl rfl rfl y.h.symm ?_
   conv=>whnf
   refine call_step hwt rfl rfl ?_
   conv=>whnf
   refine⟨(by repeat' (first | exact (aRow_ren rfl) | exact trivial | exact rfl | refine And.intro ?_ ?_ | ((conv=>whnf); first | exact (aRow_ren rfl) | exact trivial | exact rfl | refine And.intro ?_ ?_ | omega))),(by repeat' (first | exact (aRow_ren rfl) | exact trivial | exact rfl | refine And.intro ?_ ?_ | ((conv=>whnf); first | exact (aRow_ren rfl) | exact trivial | exact rfl | refine And.intro ?_ ?_ | omega))), ?_⟩
   conv=>whnf
   rw [← aRow_ren rfl]
   refine⟨fun hc=>absurd hc (by simp),fun hc=>?_⟩
   conv=>whnf
   refine slA_step (n:=128) (l:=y.l) tB_ok rfl rfl rfl rfl rfl rfl ⟨30,rfl,by decide,22,rfl,by decide, ?_⟩
   conv=>whnf
   refine b2s_step (fx:=some 128) (l:=y.l) tB_ok rfl rfl rfl rfl rfl rfl (by show 22+8≤_; rw [y.h]; decide) ?_
   rw [show (y.l.drop 22).take (subN 30 22)=subL y.l 22 30 from rfl]
   conv=>whnf
   refine⟨_,wrapId ⟨by omega,by omega⟩, ?_⟩
   refine⟨(k+1,_),⟨h,hst.symm⟩,by show m - (k+1) < m - k; omega, ?_⟩
   conv=>whnf
   refine⟨rfl, ?_⟩
   conv=>whnf
   repeat' (first | exact (aRow_ren rfl) | exact trivial | exact rfl | refine And.intro ?_ ?_ | ((conv=>whnf); first | exact (aRow_ren rfl) | exact trivial | exact rfl | refine And.intro ?_ ?_ | omega))
 ·have hk0:((k:Int) == 0)=false:=by simp; omega
  refine⟨fun hc=>absurd (show ((k:Int) == 0)=true from hc) (by rw [hk0]; decide),fun hc=>?_⟩
  conv=>whnf
  refine⟨(m:Int) - 1,wrapId ⟨by omega,by omega⟩, ?_⟩
  conv=>whnf
  by_cases h1:k+1=m
  ·have hk1:((k:Int) == (m:Int) - 1)=true:=by simp; omega
   refine⟨fun hc=>?_,fun hc=>absurd (show ((k:Int) == (m:Int) - 1)=false from hc) (by rw [hk1]; decide)⟩
   conv=>whnf
   refine⟨((0 ||| 2:UInt8).toNat:Int),by decide, ?_⟩
   conv=>whnf
   have hfl:flagF k (nfr s)=(0 ||| 2:UInt8):=by rw [hm]; simp only [flagF,if_neg h0,if_pos h1]
   refine⟨((q+k:Nat):Int),by dsimp only; rw [show (q:Int)+(k:Int)=((q+k:Nat):Int) from by omega]; exact wrapId ⟨by omega,by omega⟩, ?_⟩
   conv=>whnf
   refine⟨((k * 90:Nat):Int),by dsimp only; rw [show 90 * (k:Int)=((k * 90:Nat):Int) from by omega]; exact wrapId ⟨by omega,by omega⟩, ?_⟩
   conv=>whnf
   refine⟨((k * 90:Nat):Int),by dsimp only; rw [show 90 * (k:Int)=((k * 90:Nat):Int) from by omega]; exact wrapId ⟨by omega,by omega⟩, ?_⟩
   conv=>whnf
   refine⟨(((k+1) * 90:Nat):Int),by rw [show ((k * 90:Nat):Int)+90=(((k+1) * 90:Nat):Int) from by omega]; exact wrapId ⟨by omega,by omega⟩, ?_⟩
   conv=>whnf
   refine ssub_step (l:=s) tB_ok rfl rfl rfl ⟨min s.length ((k+1) * 90),by show min (s.length:Int) _=_; omega,by omega,k * 90,rfl,hcl, ?_⟩
   rw [show (s.take (min s.length ((k+1) * 90))).drop (k * 90)=chunkF s k from rfl]
   conv=>whnf
   refine call_step (xframe_t (q+k) x.sess (by omega) (0 ||| 2:UInt8) a.link (chunkF s k) hak (chunkF_len s k)) rfl rfl ?_
   have hst':apStep D.length x.sess s k a=⟨setD a.D (2+a.q % (D.length - 2)) (frameS (q+k) x.sess (0 ||| 2:UInt8) a.link (chunkF s k)),a.q+1,subL (frameS (q+k) x.sess (0 ||| 2:UInt8) a.link (chunkF s k)).l 22 30⟩:=by simp only [apStep,hfl,haq]
   rw [hst'] at hst
   generalize frameS (q+k) x.sess (0 ||| 2:UInt8) a.link (chunkF s k)=y at hst ⊢
   have hwt:=xwrite_t a.D (2+a.q % (D.length - 2)) (by rw [hal]; omega) hnone y
   rw [hal] at hwt
   conv=>whnf
   refine⟨?_, ?_, ?_⟩
   iterate 2 · repeat'(first|exact trivial|exact rfl|refine And.intro ?_ ?_|((conv=>whnf);first|exact trivial|exact rfl|refine And.intro ?_ ?_|omega))
   conv=>whnf
   refine allocA_step tB_ok 128 rfl rfl rfl ?_
   conv=>whnf
   refine storeA_step (l':=y.l) tB_ok rfl rfl rfl rfl rfl (by simp) (by rw [y.h]; simp) (by decide) ?_
   conv=>whnf
   refine⟨((q+k:Nat):Int),by dsimp only; rw [show (q:Int)+(k:Int)=((q+k:Nat):Int) from by omega]; exact wrapId ⟨by omega,by omega⟩, ?_⟩
   conv=>whnf
   refine call_step hslt rfl rfl ?_
   conv=>whnf
   refine⟨(by repeat' (first | exact (aRow_ren rfl) | exact trivial | exact rfl | refine And.intro ?_ ?_ | ((conv=>whnf); first | exact (aRow_ren rfl) | exact trivial | exact rfl | refine And.intro ?_ ?_ | omega))),(by repeat' (first | exact (aRow_ren rfl) | exact trivial | exact rfl | refine And.intro ?_ ?_ | ((conv=>whnf); first | exact (aRow_ren rfl) | exact trivial | exact rfl | refine And.intro ?_ ?_ | omega))), ?_⟩
   conv=>whnf
   refine⟨((2+a.q % (D.length - 2):Nat):Int),by rw [Int.zero_add]; exact wrapId ⟨by omega,by omega⟩, ?_⟩
   conv=>whnf
   refine loadA_step (l:=y.l) tB_ok rfl rfl rfl rfl rfl y.h.symm ?_
   conv=>whnf
   refine call_step hwt rfl rfl ?_
   conv=>whnf
   refine⟨(by repeat' (first | exact (aRow_ren rfl) | exact trivial | exact rfl | refine And.intro ?_ ?_ | ((conv=>whnf); first | exact (aRow_ren rfl) | exact trivial | exact rfl | refine And.intro ?_ ?_ | omega))),(by repeat' (first | exact (aRow_ren rfl) | exact trivial | exact rfl | refine And.intro ?_ ?_ | ((conv=>whnf); first | exact (aRow_ren rfl) | exact trivial | exact rfl | refine And.intro ?_ ?_ | omega))), ?_⟩
   conv=>whnf
   rw [← aRow_ren rfl]
   refine⟨fun hc=>absurd hc (by simp),fun hc=>?_⟩
   conv=>whnf
   refine slA_step (n:=128) (l:=y.l) tB_ok rfl rfl rfl rfl rfl rfl ⟨30,rfl,by decide,22,rfl,by decide, ?_⟩
   conv=>whnf
   refine b2s_step (fx:=some 128) (l:=y.l) tB_ok rfl rfl rfl rfl rfl rfl (by show 22+8≤_; rw [y.h]; decide) ?_
   rw [show (y.l.drop 22).take (subN 30 22)=subL y.l 22 30 from rfl]
   conv=>whnf
   refine⟨_,wrapId ⟨by omega,by omega⟩, ?_⟩
   refine⟨(k+1,_),⟨h,hst.symm⟩,by show m - (k+1) < m - k; omega, ?_⟩
   conv=>whnf
   refine⟨rfl, ?_⟩
   conv=>whnf
   repeat' (first | exact (aRow_ren rfl) | exact trivial | exact rfl | refine And.intro ?_ ?_ | ((conv=>whnf); first | exact (aRow_ren rfl) | exact trivial | exact rfl | refine And.intro ?_ ?_ | omega))
  ·have hk1:((k:Int) == (m:Int) - 1)=false:=by simp; omega
   refine⟨fun hc=>absurd (show ((k:Int) == (m:Int) - 1)=true from hc) (by rw [hk1]; decide),fun hc=>?_⟩
   conv=>whnf
   have hfl:flagF k (nfr s)=(0:UInt8):=by rw [hm]; simp only [flagF,if_neg h0,if_neg h1,u8_or0]
   refine⟨((q+k:Nat):Int),by dsimp only; rw [show (q:Int)+(k:Int)=((q+k:Nat):Int) from by omega]; exact wrapId ⟨by omega,by omega⟩, ?_⟩
   conv=>whnf
   refine⟨((k * 90:Nat):Int),by dsimp only; rw [show 90 * (k:Int)=((k * 90:Nat):Int) from by omega]; exact wrapId ⟨by omega,by omega⟩, ?_⟩
   conv=>whnf
   refine⟨((k * 90:Nat):Int),by dsimp only; rw [show 90 * (k:Int)=((k * 90:Nat):Int) from by omega]; exact wrapId ⟨by omega,by omega⟩, ?_⟩
   conv=>whnf
   refine⟨(((k+1) * 90:Nat):Int),by rw [show ((k * 90:Nat):Int)+90=(((k+1) * 90:Nat):Int) from by omega]; exact wrapId ⟨by omega,by omega⟩, ?_⟩
   conv=>whnf
   refine ssub_step (l:=s) tB_ok rfl rfl rfl ⟨min s.length ((k+1) * 90),by show min (s.length:Int) _=_; omega,by omega,k * 90,rfl,hcl, ?_⟩
   rw [show (s.take (min s.length ((k+1) * 90))).drop (k * 90)=chunkF s k from rfl]
   conv=>whnf
   refine call_step (xframe_t (q+k) x.sess (by omega) (0:UInt8) a.link (chunkF s k) hak (chunkF_len s k)) rfl rfl ?_
   have hst':apStep D.length x.sess s k a=⟨setD a.D (2+a.q % (D.length - 2)) (frameS (q+k) x.sess (0:UInt8) a.link (chunkF s k)),a.q+1,subL (frameS (q+k) x.sess (0:UInt8) a.link (chunkF s k)).l 22 30⟩:=by simp only [apStep,hfl,haq]
   rw [hst'] at hst
   generalize frameS (q+k) x.sess (0:UInt8) a.link (chunkF s k)=y at hst ⊢
   have hwt:=xwrite_t a.D (2+a.q % (D.length - 2)) (by rw [hal]; omega) hnone y
   rw [hal] at hwt
   conv=>whnf
   refine⟨?_, ?_, ?_⟩
   iterate 2 · repeat'(first|exact trivial|exact rfl|refine And.intro ?_ ?_|((conv=>whnf);first|exact trivial|exact rfl|refine And.intro ?_ ?_|omega))
   conv=>whnf
   refine allocA_step tB_ok 128 rfl rfl rfl ?_
   conv=>whnf
   refine storeA_step (l':=y.l) tB_ok rfl rfl rfl rfl rfl (by simp) (by rw [y.h]; simp) (by decide) ?_
   conv=>whnf
   refine⟨((q+k:Nat):Int),by dsimp only; rw [show (q:Int)+(k:Int)=((q+k:Nat):Int) from by omega]; exact wrapId ⟨by omega,by omega⟩, ?_⟩
   conv=>whnf
   refine call_step hslt rfl rfl ?_
   conv=>whnf
   refine⟨(by repeat' (first | exact (aRow_ren rfl) | exact trivial | exact rfl | refine And.intro ?_ ?_ | ((conv=>whnf); first | exact (aRow_ren rfl) | exact trivial | exact rfl | refine And.intro ?_ ?_ | omega))),(by repeat' (first | exact (aRow_ren rfl) | exact trivial | exact rfl | refine And.intro ?_ ?_ | ((conv=>whnf); first | exact (aRow_ren rfl) | exact trivial | exact rfl | refine And.intro ?_ ?_ | omega))), ?_⟩
   conv=>whnf
   refine⟨((2+a.q % (D.length - 2):Nat):Int),by rw [Int.zero_add]; exact wrapId ⟨by omega,by omega⟩, ?_⟩
   conv=>whnf
   refine loadA_step (l:=y.l) tB_ok rfl rfl rfl rfl rfl y.h.symm ?_
   conv=>whnf
   refine call_step hwt rfl rfl ?_
   conv=>whnf
   refine⟨(by repeat' (first | exact (aRow_ren rfl) | exact trivial | exact rfl | refine And.intro ?_ ?_ | ((conv=>whnf); first | exact (aRow_ren rfl) | exact trivial | exact rfl | refine And.intro ?_ ?_ | omega))),(by repeat' (first | exact (aRow_ren rfl) | exact trivial | exact rfl | refine And.intro ?_ ?_ | ((conv=>whnf); first | exact (aRow_ren rfl) | exact trivial | exact rfl | refine And.intro ?_ ?_ | omega))), ?_⟩
   conv=>whnf
   rw [← aRow_ren rfl]
   refine⟨fun hc=>absurd hc (by simp),fun hc=>?_⟩
   conv=>whnf
   refine slA_step (n:=128) (l:=y.l) tB_ok rfl rfl rfl rfl rfl rfl ⟨30,rfl,by decide,22,rfl,by decide, ?_⟩
   conv=>whnf
   refine b2s_step (fx:=some 128) (l:=y.l) tB_ok rfl rfl rfl rfl rfl rfl (by show 22+8≤_; rw [y.h]; decide) ?_
   rw [show (y.l.drop 22).take (subN 30 22)=subL y.l 22 30 from rfl]
   conv=>whnf
   refine⟨_,wrapId ⟨by omega,by omega⟩, ?_⟩
   refine⟨(k+1,_),⟨h,hst.symm⟩,by show m - (k+1) < m - k; omega, ?_⟩
   conv=>whnf
   refine⟨rfl, ?_⟩
   conv=>whnf
   repeat' (first | exact (aRow_ren rfl) | exact trivial | exact rfl | refine And.intro ?_ ?_ | ((conv=>whnf); first | exact (aRow_ren rfl) | exact trivial | exact rfl | refine And.intro ?_ ?_ | omega))

end Go.Proofs

