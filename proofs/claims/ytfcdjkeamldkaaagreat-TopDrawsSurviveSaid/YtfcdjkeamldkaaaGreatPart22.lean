/-
  A part of the proof that a law answers true: lemmas of a symbolic walk, plain functions, or contracts of the functions walked (QD, QE, Sx31, Sx70). Conditions: none.
-/
import Derived.Test.YtfcdjkeamldkaaaGreatPart21
import Derived.Test.YtfcdjkeamldkaaaGreatPart09
import Derived.WideKeyRuns
import Derived.Test.YtfcdjkeamldkaaaGreatPart19
set_option maxRecDepth 100000
set_option linter.unusedVariables false
set_option linter.unusedSimpArgs false
namespace Go.Proofs
open Go.Sx

structure Xo where
 link:List UInt8
 text:List UInt8
 f:Nat
 recs:List Xk

def begF (b:UInt8):Bool:=decide (b=1) || decide (b=3)
def endF2 (b:UInt8):Bool:=decide (b=2) || decide (b=3)

def xbadF (s:List UInt8) (q:Nat) (g:Xo):Bool :=
 !sealedF 2 s 22 || (!decide ((getF (subL s 0 8)).toNat=q) || (!decide (subL s 14 22=g.link) || (decide (90 < (byteF s 13).toNat) || (decide (3 < (byteF s 12).toNat) || !(begF (byteF s 12) == decide (g.f=0))))))

def xnxF (s:List UInt8) (g:Xo):Xo :=
 if endF2 (byteF s 12) then ⟨subL s 22 30,[],0,g.recs ++ [⟨g.text ++ subL s 30 (30+(byteF s 13).toNat),g.f+1,subL s 22 30⟩]⟩
 else ⟨subL s 22 30,g.text ++ subL s 30 (30+(byteF s 13).toNat),g.f+1,g.recs⟩

def xfolF (D:Dk) (n first:Nat):Nat → Nat → Xo → Xo
 | 0,_,g=>g
 | m+1,k,g=>if xbadF (atD D (2+(first+k) % (n - 2))) (first+k) g then g else xfolF D n first m (k+1) (xnxF (atD D (2+(first+k) % (n - 2))) g)

theorem xbad_yes {s:List UInt8} {q:Nat} {g:Xo} {beg:Bool} (hb:begF (byteF s 12)=beg) (h:(beg != decide (g.f=0))=true):xbadF s q g=true:=by
 have:(begF (byteF s 12) == decide (g.f=0))=false:=by rw [hb]; cases beg <;> cases hd:decide (g.f=0) <;> rw [hd] at h <;> first | rfl | exact absurd h (by decide)
 unfold xbadF
 rw [this]
 simp

theorem xbad_no {s:List UInt8} {q:Nat} {g:Xo} {beg:Bool} (hb:begF (byteF s 12)=beg) (h:(beg != decide (g.f=0))=false) (c3:sealedF 2 s 22=true) (c1:(getF (subL s 0 8)).toNat=q) (c2:subL s 14 22=g.link)
  (c4:¬ 90 < (byteF s 13).toNat) (c5:¬ 3 < (byteF s 12).toNat):xbadF s q g=false:=by
 have:(begF (byteF s 12) == decide (g.f=0))=true:=by rw [hb]; cases beg <;> cases hd:decide (g.f=0) <;> rw [hd] at h <;> first | rfl | exact absurd h (by decide)
 unfold xbadF
 rw [this,c3,decide_eq_true c1,decide_eq_true c2,decide_eq_false c4,decide_eq_false c5]
 rfl

structure XoI (D:Dk) (first:Nat) (R:List Xk) (k:Nat) (g:Xo):Prop where
 le:k≤D.length - 2
 text:g.text.length≤90 * k
 f:g.f≤k
 recs:g.recs.length≤k
 fin:(xfolF D D.length first (D.length - 2 - k) k g).recs=R

theorem XoI.next {D:Dk} {first:Nat} {R:List Xk} {k:Nat} {g:Xo} {s:List UInt8} (h:k < D.length - 2) (htx:g.text.length≤90 * k) (hf:g.f≤k) (hrc:g.recs.length≤k) (h13:(byteF s 13).toNat≤90)
  (hfin:(xfolF D D.length first (D.length - 2 - (k+1)) (k+1) (xnxF s g)).recs=R):XoI D first R (k+1) (xnxF s g):=by
 have hsub:(subL s 30 (30+(byteF s 13).toNat)).length≤90:=by rw [subL,List.length_take]; omega
 refine⟨h, ?_, ?_, ?_,hfin⟩ <;> (unfold xnxF; split) <;> simp only [List.length_append,List.length_nil,List.length_cons] <;> omega

def xrecs (D:Dk) (x:Xl):List Xk:=(xfolF D D.length x.first (D.length - 2) 0 ⟨x.link,[],0,[]⟩).recs

abbrev xlC0 (n:Nat) (x:Xl):List SC:=[.p 0 0 0 0, .v (.int .i64 0), .v (.int .i64 n), .v (.int .i64 x.gen), .v (.int .i64 x.sess), .v (.int .i64 x.first), .v (.int .i64 x.gone),strC x.link, .v nilV]









theorem xfollow_t (D:Dk) (hd:6≤D.length∧D.length≤65536) (x:Xl) (hf:x.first≤1000) :
  Triple Tryz.prog 130 [.c (.p 3 0 0 0)] ([(3,true, .cells (xlC0 D.length x)),(0,false,dskC 1 D.length),(1,false,dkR 2 D),(2,false,dkB D)]) 4 (.tup [])
   [(3,true, .cells (xlC D.length x 4 (xrecs D x).length)),(4,true, .arr (aXk (xrecs D x)))]:=by
 refine triple_of tB_ok Tryz.func130 rfl Tryz.call130 rfl ?_
 intro ρ w hH
 conv=>whnf
 refine loop_step tB_ok (G:=Nat × Xo) 1 [] (fun g=>[(5,iv .i64 g.1),(2,strV g.2.link),(3,strV g.2.text),(4,iv .i64 g.2.f)])
  (fun g=>[(3,true, .cells (xlC D.length x 4 g.2.recs.length)),(4,true, .arr (aXk g.2.recs))]) (fun g=>XoI D x.first (xrecs D x) g.1 g.2) (fun g=>D.length - 2 - g.1) ?_
 conv=>whnf
 refine⟨⟨(0,⟨x.link,[],0,[]⟩),⟨Nat.zero_le _,Nat.le_refl _,Nat.le_refl _,Nat.le_refl _,rfl⟩, ?_⟩, ?_⟩
 ·conv=>whnf
  repeat' (first | exact (aRow_ren rfl) | exact trivial | exact rfl | refine And.intro ?_ ?_ | ((conv=>whnf); first | exact (aRow_ren rfl) | exact trivial | exact rfl | refine And.intro ?_ ?_ | omega))
 generalize xrecs D x=R
 rintro ⟨k,g⟩ hI ρ1 t1 hρ1
 have hI:XoI D x.first R k g:=hI
 obtain ⟨hk,htx,hgf,hrc,hfin⟩:=hI
 conv=>whnf
 refine⟨((D.length - 2:Nat):Int),by rw [show (D.length:Int) - 2=((D.length - 2:Nat):Int) from by omega]; exact wrapId ⟨by omega,by omega⟩, ?_⟩
 conv=>whnf
 refine⟨fun hc=>?_,fun hc=>?_⟩
 rotate_left
 ·have hke:D.length - 2 - k=0:=by have:=of_decide_eq_false hc; omega
  have hR:R=g.recs:=by
   rw [← hfin]
   simp [hke,xfolF]
  rw [hR]
  conv=>whnf
  repeat' (first | exact (aRow_ren rfl) | exact trivial | exact rfl | refine And.intro ?_ ?_ | ((conv=>whnf); first | exact (aRow_ren rfl) | exact trivial | exact rfl | refine And.intro ?_ ?_ | omega))
 have h:k < D.length - 2:=by have:=of_decide_eq_true hc; omega
 conv=>whnf
 refine⟨((x.first+k:Nat):Int),by dsimp only; rw [show (x.first:Int)+(k:Int)=((x.first+k:Nat):Int) from by omega]; exact wrapId ⟨by omega,by omega⟩, ?_⟩
 conv=>whnf
 refine⟨fun hc=>?_,fun hc=>?_⟩
 ·exact absurd (of_decide_eq_true hc) (by omega)
 have hfo:xfolF D D.length x.first (D.length - 2 - k) k g=if xbadF (atD D (2+(x.first+k) % (D.length - 2))) (x.first+k) g then g else xfolF D D.length x.first (D.length - 2 - (k+1)) (k+1) (xnxF (atD D (2+(x.first+k) % (D.length - 2))) g):=by
  rw [show D.length - 2 - k=(D.length - 2 - (k+1))+1 from by omega]; rfl
 rw [hfo] at hfin
 have hm:=Nat.mod_lt (x.first+k) (show 0 < D.length - 2 by omega)
 have hslt:=xslot_t D D.length hd x g.recs (x.first+k) (by omega)
 have hse:=xsector_t D (2+(x.first+k) % (D.length - 2)) (by omega) hd.2
 have hsl:=atD_len D (2+(x.first+k) % (D.length - 2))
 generalize hq:x.first+k=q at hfin hslt hse hsl ⊢
 generalize atD D (2+q % (D.length - 2))=s at hfin hse hsl ⊢
 conv=>whnf
 refine call_step hslt rfl rfl ?_
 conv=>whnf
 refine⟨(by repeat' (first | exact (aRow_ren rfl) | exact trivial | exact rfl | refine And.intro ?_ ?_ | ((conv=>whnf); first | exact (aRow_ren rfl) | exact trivial | exact rfl | refine And.intro ?_ ?_ | omega))),(by repeat' (first | exact (aRow_ren rfl) | exact trivial | exact rfl | refine And.intro ?_ ?_ | ((conv=>whnf); first | exact (aRow_ren rfl) | exact trivial | exact rfl | refine And.intro ?_ ?_ | omega))), ?_⟩
 conv=>whnf
 refine call_step hse rfl rfl ?_
 conv=>whnf
 refine⟨(by repeat' (first | exact (aRow_ren rfl) | exact trivial | exact rfl | refine And.intro ?_ ?_ | ((conv=>whnf); first | exact (aRow_ren rfl) | exact trivial | exact rfl | refine And.intro ?_ ?_ | omega))),(by repeat' (first | exact (aRow_ren rfl) | exact trivial | exact rfl | refine And.intro ?_ ?_ | ((conv=>whnf); first | exact (aRow_ren rfl) | exact trivial | exact rfl | refine And.intro ?_ ?_ | omega))), ?_⟩
 conv=>whnf
 refine allocA_step tB_ok 128 rfl rfl rfl ?_
 conv=>whnf
 refine storeA_step (l':=s) tB_ok rfl rfl rfl rfl rfl (by simp) (by rw [hsl]; simp) (by decide) ?_
 conv=>whnf
 refine loadA_step (l:=s) tB_ok rfl rfl rfl rfl rfl hsl.symm ?_
 conv=>whnf
 refine call_step (xisFrame_t s hsl) rfl rfl ?_
 conv=>whnf
 refine⟨?_, ?_, ?_⟩
 iterate 2 · repeat'(first|exact trivial|exact rfl|refine And.intro ?_ ?_|((conv=>whnf);first|exact trivial|exact rfl|refine And.intro ?_ ?_|omega))
 have hb12:∀ hy,(aU8 (some 128) s).xs[12]'hy=byteF s 12:=fun hy=>byteF_at s 12 hy
 have hb13:∀ hy,(aU8 (some 128) s).xs[13]'hy=byteF s 13:=fun hy=>byteF_at s 13 hy
 have hz:=u8_lt (byteF s 13)
 have hu:∀ c:UInt8,(((byteF s 12).toNat:Int) == (c.toNat:Int))=decide (byteF s 12=c):=fun c=>u8_beq _ c
 have hq':q≤70000:=by omega
 conv=>whnf
 refine iaA_step tB_ok rfl rfl rfl rfl rfl rfl 12 rfl (by decide) ?_
 conv=>whnf
 refine⟨by show 12 < s.length; omega, ?_⟩
 rw [hb12]
 conv=>whnf
 by_cases b1:byteF s 12=1
 ·have hv1:(((byteF s 12).toNat:Int) == 1)=true:=(hu 1).trans (by rw [b1]; rfl)
  have hv2:(((byteF s 12).toNat:Int) == 2)=false:=(hu 2).trans (by rw [b1]; rfl)
  have hv3:(((byteF s 12).toNat:Int) == 3)=false:=(hu 3).trans (by rw [b1]; rfl)
  have hbeg:begF (byteF s 12)=true:=by rw [b1]; rfl
  have hen:endF2 (byteF s 12)=false:=by rw [b1]; rfl
  refine⟨fun hc=>?_,fun hc=>absurd (show (((byteF s 12).toNat:Int) == 1)=false from hc) (by rw [hv1]; decide)⟩
  conv=>whnf
  refine iaA_step tB_ok rfl rfl rfl rfl rfl rfl 12 rfl (by decide) ?_
  conv=>whnf
  refine⟨by show 12 < s.length; omega, ?_⟩
  rw [hb12]
  conv=>whnf
  refine⟨fun hc=>absurd (show (((byteF s 12).toNat:Int) == 2)=true from hc) (by rw [hv2]; decide),fun hc=>?_⟩
  conv=>whnf
  refine iaA_step tB_ok rfl rfl rfl rfl rfl rfl 12 rfl (by decide) ?_
  conv=>whnf
  refine⟨by show 12 < s.length; omega, ?_⟩
  rw [hb12]
  conv=>whnf
  rw [hv3,hv1]
  cases c3:sealedF 2 s 22 with
  | false =>
   have hbad:xbadF s q g=true:=by simp [xbadF,c3]
   conv=>whnf
   refine⟨fun hc=>?_,fun hc=>absurd hc (by simp)⟩
   conv=>whnf
   have hR:R=g.recs:=by
    rw [← hfin]
    rw [if_pos hbad]
   rw [hR]
   conv=>whnf
   repeat' (first | exact (aRow_ren rfl) | exact trivial | exact rfl | refine And.intro ?_ ?_ | ((conv=>whnf); first | exact (aRow_ren rfl) | exact trivial | exact rfl | refine And.intro ?_ ?_ | omega))
  | true =>
   conv=>whnf
   refine⟨fun hc=>absurd hc (by simp),fun hc=>?_⟩
   conv=>whnf
   refine loadA_step (l:=s) tB_ok rfl rfl rfl rfl rfl hsl.symm ?_
   conv=>whnf
   refine call_step (xbytes_t s hsl 0 8 (by decide)) rfl rfl ?_
   rw [show getF (subL s 0 (0+8))=getF (subL s 0 8) from rfl]
   conv=>whnf
   refine⟨?_, ?_, ?_⟩
   iterate 2 · repeat'(first|exact trivial|exact rfl|refine And.intro ?_ ?_|((conv=>whnf);first|exact trivial|exact rfl|refine And.intro ?_ ?_|omega))
   conv=>whnf
   refine⟨(q:Int),wrap_u64_nat q (by omega), ?_⟩
   conv=>whnf
   refine⟨fun hc=>?_,fun hc=>?_⟩
   ·have c1:¬ (getF (subL s 0 8)).toNat=q:=by
     intro e
     have hc:(((getF (subL s 0 8)).toNat:Int) != (q:Int))=true:=hc
     simp [e] at hc
    have hbad:xbadF s q g=true:=by simp [xbadF,c1]
    conv=>whnf
    have hR:R=g.recs:=by
     rw [← hfin]
     rw [if_pos hbad]
    rw [hR]
    conv=>whnf
    repeat' (first | exact (aRow_ren rfl) | exact trivial | exact rfl | refine And.intro ?_ ?_ | ((conv=>whnf); first | exact (aRow_ren rfl) | exact trivial | exact rfl | refine And.intro ?_ ?_ | omega))
   have c1:(getF (subL s 0 8)).toNat=q:=by
    have hc:(((getF (subL s 0 8)).toNat:Int) != (q:Int))=false:=hc
    simp at hc
    omega
   conv=>whnf
   refine slA_step (n:=128) (l:=s) tB_ok rfl rfl rfl rfl rfl rfl ⟨22,rfl,by decide,14,rfl,by decide, ?_⟩
   conv=>whnf
   refine b2s_step (fx:=some 128) (l:=s) tB_ok rfl rfl rfl rfl rfl rfl (by show 14+8≤_; omega) ?_
   rw [show (s.drop 14).take (subN 22 14)=subL s 14 22 from rfl]
   conv=>whnf
   refine sne_step (l:=subL s 14 22) (l':=g.link) rfl rfl rfl ?_
   conv=>whnf
   refine⟨fun hc=>?_,fun hc=>?_⟩
   ·have c2:¬ subL s 14 22=g.link:=by
     intro e
     have hc:(!decide (subL s 14 22=g.link))=true:=hc
     simp [e] at hc
    have hbad:xbadF s q g=true:=by simp [xbadF,c2]
    conv=>whnf
    have hR:R=g.recs:=by
     rw [← hfin]
     rw [if_pos hbad]
    rw [hR]
    conv=>whnf
    repeat' (first | exact (aRow_ren rfl) | exact trivial | exact rfl | refine And.intro ?_ ?_ | ((conv=>whnf); first | exact (aRow_ren rfl) | exact trivial | exact rfl | refine And.intro ?_ ?_ | omega))
   have c2:subL s 14 22=g.link:=by
    have hc:(!decide (subL s 14 22=g.link))=false:=hc
    simpa using hc
   conv=>whnf
   refine iaA_step tB_ok rfl rfl rfl rfl rfl rfl 13 rfl (by decide) ?_
   conv=>whnf
   refine⟨by show 13 < s.length; omega, ?_⟩
   rw [hb13]
   conv=>whnf
   refine⟨fun hc=>?_,fun hc=>?_⟩
   ·have c4:90 < (byteF s 13).toNat:=by
     have:=of_decide_eq_true hc
     omega
    have hbad:xbadF s q g=true:=by simp [xbadF,c4]
    conv=>whnf
    have hR:R=g.recs:=by
     rw [← hfin]
     rw [if_pos hbad]
    rw [hR]
    conv=>whnf
    repeat' (first | exact (aRow_ren rfl) | exact trivial | exact rfl | refine And.intro ?_ ?_ | ((conv=>whnf); first | exact (aRow_ren rfl) | exact trivial | exact rfl | refine And.intro ?_ ?_ | omega))
   have c4:¬ 90 < (byteF s 13).toNat:=by
    have:=of_decide_eq_false hc
    omega
   conv=>whnf
   refine iaA_step tB_ok rfl rfl rfl rfl rfl rfl 12 rfl (by decide) ?_
   conv=>whnf
   refine⟨by show 12 < s.length; omega, ?_⟩
   rw [hb12]
   conv=>whnf
   refine⟨fun hc=>?_,fun hc=>?_⟩
   ·have c5:3 < (byteF s 12).toNat:=by
     have:=of_decide_eq_true hc
     omega
    have hbad:xbadF s q g=true:=by simp [xbadF,c5]
    conv=>whnf
    have hR:R=g.recs:=by
     rw [← hfin]
     rw [if_pos hbad]
    rw [hR]
    conv=>whnf
    repeat' (first | exact (aRow_ren rfl) | exact trivial | exact rfl | refine And.intro ?_ ?_ | ((conv=>whnf); first | exact (aRow_ren rfl) | exact trivial | exact rfl | refine And.intro ?_ ?_ | omega))
   have c5:¬ 3 < (byteF s 12).toNat:=by
    have:=of_decide_eq_false hc
    omega
   have hf0:((g.f:Int) == 0)=decide (g.f=0):=by
    by_cases c0:g.f=0
    ·rw [c0]
     rfl
    ·rw [decide_eq_false c0]
     exact beq_false_of_ne (by omega)
   conv=>whnf
   refine⟨fun hc=>?_,fun hc=>?_⟩
   ·have hc:(true != ((g.f:Int) == 0))=true:=hc
    have hbad:xbadF s q g=true:=by
     rw [hf0] at hc
     exact xbad_yes hbeg hc
    conv=>whnf
    have hR:R=g.recs:=by
     rw [← hfin]
     rw [if_pos hbad]
    rw [hR]
    conv=>whnf
    repeat' (first | exact (aRow_ren rfl) | exact trivial | exact rfl | refine And.intro ?_ ?_ | ((conv=>whnf); first | exact (aRow_ren rfl) | exact trivial | exact rfl | refine And.intro ?_ ?_ | omega))
   have hc:(true != ((g.f:Int) == 0))=false:=hc
   have hbad:xbadF s q g=false:=by
    rw [hf0] at hc
    exact xbad_no hbeg hc c3 c1 c2 c4 c5
   rw [hbad] at hfin
   have hfin:(xfolF D D.length x.first (D.length - 2 - (k+1)) (k+1) (xnxF s g)).recs=R:=hfin
   have hnx:=XoI.next h htx hgf hrc (by omega) hfin
   conv=>whnf
   refine iaA_step tB_ok rfl rfl rfl rfl rfl rfl 13 rfl (by decide) ?_
   conv=>whnf
   refine⟨by show 13 < s.length; omega, ?_⟩
   rw [hb13]
   conv=>whnf
   refine⟨((byteF s 13).toNat:Int),wrapId ⟨by omega,by omega⟩, ?_⟩
   conv=>whnf
   refine⟨(30:Int)+((byteF s 13).toNat:Int),wrapId ⟨by omega,by omega⟩, ?_⟩
   conv=>whnf
   refine slA_step (n:=128) (l:=s) tB_ok rfl rfl rfl rfl rfl rfl ⟨30+(byteF s 13).toNat,by omega,by omega,30,rfl,by omega, ?_⟩
   conv=>whnf
   refine b2s_step (fx:=some 128) (l:=s) tB_ok rfl rfl rfl rfl rfl rfl (by rw [subN_eq]; show 30+(30+(byteF s 13).toNat - 30)≤_; omega) ?_
   rw [show (s.drop 30).take (subN (30+(byteF s 13).toNat) 30)=subL s 30 (30+(byteF s 13).toNat) from by rw [subN_eq]; rfl]
   conv=>whnf
   have hsub:(subL s 30 (30+(byteF s 13).toNat)).length≤90:=by
    rw [subL,List.length_take]
    omega
   refine cat_step (l:=g.text) (l':=subL s 30 (30+(byteF s 13).toNat)) rfl rfl rfl (by omega) ?_
   conv=>whnf
   refine⟨((g.f+1:Nat):Int),by dsimp only; rw [show (g.f:Int)+1=((g.f+1:Nat):Int) from by omega]; exact wrapId ⟨by omega,by omega⟩, ?_⟩
   conv=>whnf
   refine slA_step (n:=128) (l:=s) tB_ok rfl rfl rfl rfl rfl rfl ⟨30,rfl,by decide,22,rfl,by decide, ?_⟩
   conv=>whnf
   refine b2s_step (fx:=some 128) (l:=s) tB_ok rfl rfl rfl rfl rfl rfl (by show 22+8≤_; omega) ?_
   rw [show (s.drop 22).take (subN 30 22)=subL s 22 30 from rfl]
   generalize hT:g.text ++ subL s 30 (30+(byteF s 13).toNat)=T
   conv=>whnf
   have e:xnxF s g=⟨subL s 22 30,T,g.f+1,g.recs⟩:=by simp only [xnxF,hen,hT]; rfl
   rw [e] at hnx
   refine⟨fun hc=>absurd hc (by simp),fun hc=>?_⟩
   conv=>whnf
   refine⟨_,wrapId ⟨by omega,by omega⟩, ?_⟩
   refine⟨(k+1,_),hnx,by show D.length - 2 - (k+1) < D.length - 2 - k; omega, ?_⟩
   conv=>whnf
   refine⟨rfl, ?_⟩
   conv=>whnf
   repeat' (first | exact (aRow_ren rfl) | exact trivial | exact rfl | refine And.intro ?_ ?_ | ((conv=>whnf); first | exact (aRow_ren rfl) | exact trivial | exact rfl | refine And.intro ?_ ?_ | omega))
 have hv1:(((byteF s 12).toNat:Int) == 1)=false:=(hu 1).trans (decide_eq_false b1)
 refine⟨fun hc=>absurd (show (((byteF s 12).toNat:Int) == 1)=true from hc) (by rw [hv1]; decide),fun hc=>?_⟩
 conv=>whnf
 refine iaA_step tB_ok rfl rfl rfl rfl rfl rfl 12 rfl (by decide) ?_
 conv=>whnf
 refine⟨by show 12 < s.length; omega, ?_⟩
 rw [hb12]
 conv=>whnf
 by_cases b2:byteF s 12=2
 ·have hv2:(((byteF s 12).toNat:Int) == 2)=true:=(hu 2).trans (by rw [b2]; rfl)
  have hv3:(((byteF s 12).toNat:Int) == 3)=false:=(hu 3).trans (by rw [b2]; rfl)
  have hbeg:begF (byteF s 12)=false:=by rw [b2]; rfl
  have hen:endF2 (byteF s 12)=true:=by rw [b2]; rfl
  refine iaA_step tB_ok rfl rfl rfl rfl rfl rfl 12 rfl (by decide) ?_
  conv=>whnf
  refine⟨by show 12 < s.length; omega, ?_⟩
  rw [hb12]
  conv=>whnf
  refine⟨fun hc=>?_,fun hc=>absurd (show (((byteF s 12).toNat:Int) == 2)=false from hc) (by rw [hv2]; decide)⟩
  conv=>whnf
  rw [hv3,hv2]
  cases c3:sealedF 2 s 22 with
  | false =>
   have hbad:xbadF s q g=true:=by simp [xbadF,c3]
   conv=>whnf
   refine⟨fun hc=>?_,fun hc=>absurd hc (by simp)⟩
   conv=>whnf
   have hR:R=g.recs:=by
    rw [← hfin]
    rw [if_pos hbad]
   rw [hR]
   conv=>whnf
   repeat' (first | exact (aRow_ren rfl) | exact trivial | exact rfl | refine And.intro ?_ ?_ | ((conv=>whnf); first | exact (aRow_ren rfl) | exact trivial | exact rfl | refine And.intro ?_ ?_ | omega))
  | true =>
   conv=>whnf
   refine⟨fun hc=>absurd hc (by simp),fun hc=>?_⟩
   conv=>whnf
   refine loadA_step (l:=s) tB_ok rfl rfl rfl rfl rfl hsl.symm ?_
   conv=>whnf
   refine call_step (xbytes_t s hsl 0 8 (by decide)) rfl rfl ?_
   rw [show getF (subL s 0 (0+8))=getF (subL s 0 8) from rfl]
   conv=>whnf
   refine⟨?_, ?_, ?_⟩
   iterate 2 · repeat'(first|exact trivial|exact rfl|refine And.intro ?_ ?_|((conv=>whnf);first|exact trivial|exact rfl|refine And.intro ?_ ?_|omega))
   conv=>whnf
   refine⟨(q:Int),wrap_u64_nat q (by omega), ?_⟩
   conv=>whnf
   refine⟨fun hc=>?_,fun hc=>?_⟩
   ·have c1:¬ (getF (subL s 0 8)).toNat=q:=by
     intro e
     have hc:(((getF (subL s 0 8)).toNat:Int) != (q:Int))=true:=hc
     simp [e] at hc
    have hbad:xbadF s q g=true:=by simp [xbadF,c1]
    conv=>whnf
    have hR:R=g.recs:=by
     rw [← hfin]
     rw [if_pos hbad]
    rw [hR]
    conv=>whnf
    repeat' (first | exact (aRow_ren rfl) | exact trivial | exact rfl | refine And.intro ?_ ?_ | ((conv=>whnf); first | exact (aRow_ren rfl) | exact trivial | exact rfl | refine And.intro ?_ ?_ | omega))
   have c1:(getF (subL s 0 8)).toNat=q:=by
    have hc:(((getF (subL s 0 8)).toNat:Int) != (q:Int))=false:=hc
    simp at hc
    omega
   conv=>whnf
   refine slA_step (n:=128) (l:=s) tB_ok rfl rfl rfl rfl rfl rfl ⟨22,rfl,by decide,14,rfl,by decide, ?_⟩
   conv=>whnf
   refine b2s_step (fx:=some 128) (l:=s) tB_ok rfl rfl rfl rfl rfl rfl (by show 14+8≤_; omega) ?_
   rw [show (s.drop 14).take (subN 22 14)=subL s 14 22 from rfl]
   conv=>whnf
   refine sne_step (l:=subL s 14 22) (l':=g.link) rfl rfl rfl ?_
   conv=>whnf
   refine⟨fun hc=>?_,fun hc=>?_⟩
   ·have c2:¬ subL s 14 22=g.link:=by
     intro e
     have hc:(!decide (subL s 14 22=g.link))=true:=hc
     simp [e] at hc
    have hbad:xbadF s q g=true:=by simp [xbadF,c2]
    conv=>whnf
    have hR:R=g.recs:=by
     rw [← hfin]
     rw [if_pos hbad]
    rw [hR]
    conv=>whnf
    repeat' (first | exact (aRow_ren rfl) | exact trivial | exact rfl | refine And.intro ?_ ?_ | ((conv=>whnf); first | exact (aRow_ren rfl) | exact trivial | exact rfl | refine And.intro ?_ ?_ | omega))
   have c2:subL s 14 22=g.link:=by
    have hc:(!decide (subL s 14 22=g.link))=false:=hc
    simpa using hc
   conv=>whnf
   refine iaA_step tB_ok rfl rfl rfl rfl rfl rfl 13 rfl (by decide) ?_
   conv=>whnf
   refine⟨by show 13 < s.length; omega, ?_⟩
   rw [hb13]
   conv=>whnf
   refine⟨fun hc=>?_,fun hc=>?_⟩
   ·have c4:90 < (byteF s 13).toNat:=by
     have:=of_decide_eq_true hc
     omega
    have hbad:xbadF s q g=true:=by simp [xbadF,c4]
    conv=>whnf
    have hR:R=g.recs:=by
     rw [← hfin]
     rw [if_pos hbad]
    rw [hR]
    conv=>whnf
    repeat' (first | exact (aRow_ren rfl) | exact trivial | exact rfl | refine And.intro ?_ ?_ | ((conv=>whnf); first | exact (aRow_ren rfl) | exact trivial | exact rfl | refine And.intro ?_ ?_ | omega))
   have c4:¬ 90 < (byteF s 13).toNat:=by
    have:=of_decide_eq_false hc
    omega
   conv=>whnf
   refine iaA_step tB_ok rfl rfl rfl rfl rfl rfl 12 rfl (by decide) ?_
   conv=>whnf
   refine⟨by show 12 < s.length; omega, ?_⟩
   rw [hb12]
   conv=>whnf
   refine⟨fun hc=>?_,fun hc=>?_⟩
   ·have c5:3 < (byteF s 12).toNat:=by
     have:=of_decide_eq_true hc
     omega
    have hbad:xbadF s q g=true:=by simp [xbadF,c5]
    conv=>whnf
    have hR:R=g.recs:=by
     rw [← hfin]
     rw [if_pos hbad]
    rw [hR]
    conv=>whnf
    repeat' (first | exact (aRow_ren rfl) | exact trivial | exact rfl | refine And.intro ?_ ?_ | ((conv=>whnf); first | exact (aRow_ren rfl) | exact trivial | exact rfl | refine And.intro ?_ ?_ | omega))
   have c5:¬ 3 < (byteF s 12).toNat:=by
    have:=of_decide_eq_false hc
    omega
   have hf0:((g.f:Int) == 0)=decide (g.f=0):=by
    by_cases c0:g.f=0
    ·rw [c0]
     rfl
    ·rw [decide_eq_false c0]
     exact beq_false_of_ne (by omega)
   conv=>whnf
   refine⟨fun hc=>?_,fun hc=>?_⟩
   ·have hc:(false != ((g.f:Int) == 0))=true:=hc
    have hbad:xbadF s q g=true:=by
     rw [hf0] at hc
     exact xbad_yes hbeg hc
    conv=>whnf
    have hR:R=g.recs:=by
     rw [← hfin]
     rw [if_pos hbad]
    rw [hR]
    conv=>whnf
    repeat' (first | exact (aRow_ren rfl) | exact trivial | exact rfl | refine And.intro ?_ ?_ | ((conv=>whnf); first | exact (aRow_ren rfl) | exact trivial | exact rfl | refine And.intro ?_ ?_ | omega))
   have hc:(false != ((g.f:Int) == 0))=false:=hc
   have hbad:xbadF s q g=false:=by
    rw [hf0] at hc
    exact xbad_no hbeg hc c3 c1 c2 c4 c5
   rw [hbad] at hfin
   have hfin:(xfolF D D.length x.first (D.length - 2 - (k+1)) (k+1) (xnxF s g)).recs=R:=hfin
   have hnx:=XoI.next h htx hgf hrc (by omega) hfin
   conv=>whnf
   refine iaA_step tB_ok rfl rfl rfl rfl rfl rfl 13 rfl (by decide) ?_
   conv=>whnf
   refine⟨by show 13 < s.length; omega, ?_⟩
   rw [hb13]
   conv=>whnf
   refine⟨((byteF s 13).toNat:Int),wrapId ⟨by omega,by omega⟩, ?_⟩
   conv=>whnf
   refine⟨(30:Int)+((byteF s 13).toNat:Int),wrapId ⟨by omega,by omega⟩, ?_⟩
   conv=>whnf
   refine slA_step (n:=128) (l:=s) tB_ok rfl rfl rfl rfl rfl rfl ⟨30+(byteF s 13).toNat,by omega,by omega,30,rfl,by omega, ?_⟩
   conv=>whnf
   refine b2s_step (fx:=some 128) (l:=s) tB_ok rfl rfl rfl rfl rfl rfl (by rw [subN_eq]; show 30+(30+(byteF s 13).toNat - 30)≤_; omega) ?_
   rw [show (s.drop 30).take (subN (30+(byteF s 13).toNat) 30)=subL s 30 (30+(byteF s 13).toNat) from by rw [subN_eq]; rfl]
   conv=>whnf
   have hsub:(subL s 30 (30+(byteF s 13).toNat)).length≤90:=by
    rw [subL,List.length_take]
    omega
   refine cat_step (l:=g.text) (l':=subL s 30 (30+(byteF s 13).toNat)) rfl rfl rfl (by omega) ?_
   conv=>whnf
   refine⟨((g.f+1:Nat):Int),by dsimp only; rw [show (g.f:Int)+1=((g.f+1:Nat):Int) from by omega]; exact wrapId ⟨by omega,by omega⟩, ?_⟩
   conv=>whnf
   refine slA_step (n:=128) (l:=s) tB_ok rfl rfl rfl rfl rfl rfl ⟨30,rfl,by decide,22,rfl,by decide, ?_⟩
   conv=>whnf
   refine b2s_step (fx:=some 128) (l:=s) tB_ok rfl rfl rfl rfl rfl rfl (by show 22+8≤_; omega) ?_
   rw [show (s.drop 22).take (subN 30 22)=subL s 22 30 from rfl]
   generalize hT:g.text ++ subL s 30 (30+(byteF s 13).toNat)=T
   conv=>whnf
   have e:xnxF s g=⟨subL s 22 30,[],0,g.recs ++ [⟨T,g.f+1,subL s 22 30⟩]⟩:=by simp only [xnxF,hen,hT,if_pos]
   rw [e] at hnx
   refine bs_step tB_ok (aXk [⟨T,g.f+1,subL s 22 30⟩]) rfl rfl ?_
   conv=>whnf
   refine⟨⟨rfl,(by repeat'(first|exact trivial|exact rfl|refine And.intro ?_ ?_|((conv=>whnf);first|exact trivial|exact rfl|refine And.intro ?_ ?_|omega)))⟩, ?_⟩
   generalize hr:(⟨T,g.f+1,subL s 22 30⟩:Xk)=r at hnx ⊢
   conv=>whnf
   refine appR_step tB_ok (aXk g.recs) [r] (g.recs ++ [r]) (fun _=>rfl) rfl rfl rfl rfl ?_
   conv=>whnf
   refine⟨⟨rfl,rfl,Nat.le_refl _,Nat.le_refl _,by show (g.recs.length+1) * 41≤140737488355328; omega,app1⟩, ?_⟩
   conv=>whnf
   have e3:(g.recs ++ [r]).length=g.recs.length+1:=by rw [List.length_append]; rfl
   refine⟨_,wrapId ⟨by omega,by omega⟩, ?_⟩
   refine⟨(k+1,_),hnx,by show D.length - 2 - (k+1) < D.length - 2 - k; omega, ?_⟩
   dsimp only
   rw [e3]
   conv=>whnf
   refine⟨rfl, ?_⟩
   conv=>whnf
   repeat' (first | exact e3 | exact trivial | exact rfl | refine And.intro ?_ ?_ | ((conv=>whnf); first | exact e3 | exact trivial | exact rfl | refine And.intro ?_ ?_ | omega))
 have hv2:(((byteF s 12).toNat:Int) == 2)=false:=(hu 2).trans (decide_eq_false b2)
 refine iaA_step tB_ok rfl rfl rfl rfl rfl rfl 12 rfl (by decide) ?_
 conv=>whnf
 refine⟨by show 12 < s.length; omega, ?_⟩
 rw [hb12]
 conv=>whnf
 refine⟨fun hc=>absurd (show (((byteF s 12).toNat:Int) == 2)=true from hc) (by rw [hv2]; decide),fun hc=>?_⟩
 conv=>whnf
 refine iaA_step tB_ok rfl rfl rfl rfl rfl rfl 12 rfl (by decide) ?_
 conv=>whnf
 refine⟨by show 12 < s.length; omega, ?_⟩
 rw [hb12]
 conv=>whnf
 by_cases b3:byteF s 12=3
 ·have hv3:(((byteF s 12).toNat:Int) == 3)=true:=(hu 3).trans (by rw [b3]; rfl)
  have hbeg:begF (byteF s 12)=true:=by rw [b3]; rfl
  have hen:endF2 (byteF s 12)=true:=by rw [b3]; rfl
  rw [hv3]
  cases c3:sealedF 2 s 22 with
  | false =>
   have hbad:xbadF s q g=true:=by simp [xbadF,c3]
   conv=>whnf
   refine⟨fun hc=>?_,fun hc=>absurd hc (by simp)⟩
   conv=>whnf
   have hR:R=g.recs:=by
    rw [← hfin]
    rw [if_pos hbad]
   rw [hR]
   conv=>whnf
   repeat' (first | exact (aRow_ren rfl) | exact trivial | exact rfl | refine And.intro ?_ ?_ | ((conv=>whnf); first | exact (aRow_ren rfl) | exact trivial | exact rfl | refine And.intro ?_ ?_ | omega))
  | true =>
   conv=>whnf
   refine⟨fun hc=>absurd hc (by simp),fun hc=>?_⟩
   conv=>whnf
   refine loadA_step (l:=s) tB_ok rfl rfl rfl rfl rfl hsl.symm ?_
   conv=>whnf
   refine call_step (xbytes_t s hsl 0 8 (by decide)) rfl rfl ?_
   rw [show getF (subL s 0 (0+8))=getF (subL s 0 8) from rfl]
   conv=>whnf
   refine⟨?_, ?_, ?_⟩
   iterate 2 · repeat'(first|exact trivial|exact rfl|refine And.intro ?_ ?_|((conv=>whnf);first|exact trivial|exact rfl|refine And.intro ?_ ?_|omega))
   conv=>whnf
   refine⟨(q:Int),wrap_u64_nat q (by omega), ?_⟩
   conv=>whnf
   refine⟨fun hc=>?_,fun hc=>?_⟩
   ·have c1:¬ (getF (subL s 0 8)).toNat=q:=by
     intro e
     have hc:(((getF (subL s 0 8)).toNat:Int) != (q:Int))=true:=hc
     simp [e] at hc
    have hbad:xbadF s q g=true:=by simp [xbadF,c1]
    conv=>whnf
    have hR:R=g.recs:=by
     rw [← hfin]
     rw [if_pos hbad]
    rw [hR]
    conv=>whnf
    repeat' (first | exact (aRow_ren rfl) | exact trivial | exact rfl | refine And.intro ?_ ?_ | ((conv=>whnf); first | exact (aRow_ren rfl) | exact trivial | exact rfl | refine And.intro ?_ ?_ | omega))
   have c1:(getF (subL s 0 8)).toNat=q:=by
    have hc:(((getF (subL s 0 8)).toNat:Int) != (q:Int))=false:=hc
    simp at hc
    omega
   conv=>whnf
   refine slA_step (n:=128) (l:=s) tB_ok rfl rfl rfl rfl rfl rfl ⟨22,rfl,by decide,14,rfl,by decide, ?_⟩
   conv=>whnf
   refine b2s_step (fx:=some 128) (l:=s) tB_ok rfl rfl rfl rfl rfl rfl (by show 14+8≤_; omega) ?_
   rw [show (s.drop 14).take (subN 22 14)=subL s 14 22 from rfl]
   conv=>whnf
   refine sne_step (l:=subL s 14 22) (l':=g.link) rfl rfl rfl ?_
   conv=>whnf
   refine⟨fun hc=>?_,fun hc=>?_⟩
   ·have c2:¬ subL s 14 22=g.link:=by
     intro e
     have hc:(!decide (subL s 14 22=g.link))=true:=hc
     simp [e] at hc
    have hbad:xbadF s q g=true:=by simp [xbadF,c2]
    conv=>whnf
    have hR:R=g.recs:=by
     rw [← hfin]
     rw [if_pos hbad]
    rw [hR]
    conv=>whnf
    repeat' (first | exact (aRow_ren rfl) | exact trivial | exact rfl | refine And.intro ?_ ?_ | ((conv=>whnf); first | exact (aRow_ren rfl) | exact trivial | exact rfl | refine And.intro ?_ ?_ | omega))
   have c2:subL s 14 22=g.link:=by
    have hc:(!decide (subL s 14 22=g.link))=false:=hc
    simpa using hc
   conv=>whnf
   refine iaA_step tB_ok rfl rfl rfl rfl rfl rfl 13 rfl (by decide) ?_
   conv=>whnf
   refine⟨by show 13 < s.length; omega, ?_⟩
   rw [hb13]
   conv=>whnf
   refine⟨fun hc=>?_,fun hc=>?_⟩
   ·have c4:90 < (byteF s 13).toNat:=by
     have:=of_decide_eq_true hc
     omega
    have hbad:xbadF s q g=true:=by simp [xbadF,c4]
    conv=>whnf
    have hR:R=g.recs:=by
     rw [← hfin]
     rw [if_pos hbad]
    rw [hR]
    conv=>whnf
    repeat' (first | exact (aRow_ren rfl) | exact trivial | exact rfl | refine And.intro ?_ ?_ | ((conv=>whnf); first | exact (aRow_ren rfl) | exact trivial | exact rfl | refine And.intro ?_ ?_ | omega))
   have c4:¬ 90 < (byteF s 13).toNat:=by
    have:=of_decide_eq_false hc
    omega
   conv=>whnf
   refine iaA_step tB_ok rfl rfl rfl rfl rfl rfl 12 rfl (by decide) ?_
   conv=>whnf
   refine⟨by show 12 < s.length; omega, ?_⟩
   rw [hb12]
   conv=>whnf
   refine⟨fun hc=>?_,fun hc=>?_⟩
   ·have c5:3 < (byteF s 12).toNat:=by
     have:=of_decide_eq_true hc
     omega
    have hbad:xbadF s q g=true:=by simp [xbadF,c5]
    conv=>whnf
    have hR:R=g.recs:=by
     rw [← hfin]
     rw [if_pos hbad]
    rw [hR]
    conv=>whnf
    repeat' (first | exact (aRow_ren rfl) | exact trivial | exact rfl | refine And.intro ?_ ?_ | ((conv=>whnf); first | exact (aRow_ren rfl) | exact trivial | exact rfl | refine And.intro ?_ ?_ | omega))
   have c5:¬ 3 < (byteF s 12).toNat:=by
    have:=of_decide_eq_false hc
    omega
   have hf0:((g.f:Int) == 0)=decide (g.f=0):=by
    by_cases c0:g.f=0
    ·rw [c0]
     rfl
    ·rw [decide_eq_false c0]
     exact beq_false_of_ne (by omega)
   conv=>whnf
   refine⟨fun hc=>?_,fun hc=>?_⟩
   ·have hc:(true != ((g.f:Int) == 0))=true:=hc
    have hbad:xbadF s q g=true:=by
     rw [hf0] at hc
     exact xbad_yes hbeg hc
    conv=>whnf
    have hR:R=g.recs:=by
     rw [← hfin]
     rw [if_pos hbad]
    rw [hR]
    conv=>whnf
    repeat' (first | exact (aRow_ren rfl) | exact trivial | exact rfl | refine And.intro ?_ ?_ | ((conv=>whnf); first | exact (aRow_ren rfl) | exact trivial | exact rfl | refine And.intro ?_ ?_ | omega))
   have hc:(true != ((g.f:Int) == 0))=false:=hc
   have hbad:xbadF s q g=false:=by
    rw [hf0] at hc
    exact xbad_no hbeg hc c3 c1 c2 c4 c5
   rw [hbad] at hfin
   have hfin:(xfolF D D.length x.first (D.length - 2 - (k+1)) (k+1) (xnxF s g)).recs=R:=hfin
   have hnx:=XoI.next h htx hgf hrc (by omega) hfin
   conv=>whnf
   refine iaA_step tB_ok rfl rfl rfl rfl rfl rfl 13 rfl (by decide) ?_
   conv=>whnf
   refine⟨by show 13 < s.length; omega, ?_⟩
   rw [hb13]
   conv=>whnf
   refine⟨((byteF s 13).toNat:Int),wrapId ⟨by omega,by omega⟩, ?_⟩
   conv=>whnf
   refine⟨(30:Int)+((byteF s 13).toNat:Int),wrapId ⟨by omega,by omega⟩, ?_⟩
   conv=>whnf
   refine slA_step (n:=128) (l:=s) tB_ok rfl rfl rfl rfl rfl rfl ⟨30+(byteF s 13).toNat,by omega,by omega,30,rfl,by omega, ?_⟩
   conv=>whnf
   refine b2s_step (fx:=some 128) (l:=s) tB_ok rfl rfl rfl rfl rfl rfl (by rw [subN_eq]; show 30+(30+(byteF s 13).toNat - 30)≤_; omega) ?_
   rw [show (s.drop 30).take (subN (30+(byteF s 13).toNat) 30)=subL s 30 (30+(byteF s 13).toNat) from by rw [subN_eq]; rfl]
   conv=>whnf
   have hsub:(subL s 30 (30+(byteF s 13).toNat)).length≤90:=by
    rw [subL,List.length_take]
    omega
   refine cat_step (l:=g.text) (l':=subL s 30 (30+(byteF s 13).toNat)) rfl rfl rfl (by omega) ?_
   conv=>whnf
   refine⟨((g.f+1:Nat):Int),by dsimp only; rw [show (g.f:Int)+1=((g.f+1:Nat):Int) from by omega]; exact wrapId ⟨by omega,by omega⟩, ?_⟩
   conv=>whnf
   refine slA_step (n:=128) (l:=s) tB_ok rfl rfl rfl rfl rfl rfl ⟨30,rfl,by decide,22,rfl,by decide, ?_⟩
   conv=>whnf
   refine b2s_step (fx:=some 128) (l:=s) tB_ok rfl rfl rfl rfl rfl rfl (by show 22+8≤_; omega) ?_
   rw [show (s.drop 22).take (subN 30 22)=subL s 22 30 from rfl]
   generalize hT:g.text ++ subL s 30 (30+(byteF s 13).toNat)=T
   conv=>whnf
   have e:xnxF s g=⟨subL s 22 30,[],0,g.recs ++ [⟨T,g.f+1,subL s 22 30⟩]⟩:=by simp only [xnxF,hen,hT,if_pos]
   rw [e] at hnx
   refine⟨fun hc=>?_,fun hc=>absurd hc (by simp)⟩
   conv=>whnf
   refine bs_step tB_ok (aXk [⟨T,g.f+1,subL s 22 30⟩]) rfl rfl ?_
   conv=>whnf
   refine⟨⟨rfl,(by repeat'(first|exact trivial|exact rfl|refine And.intro ?_ ?_|((conv=>whnf);first|exact trivial|exact rfl|refine And.intro ?_ ?_|omega)))⟩, ?_⟩
   generalize hr:(⟨T,g.f+1,subL s 22 30⟩:Xk)=r at hnx ⊢
   conv=>whnf
   refine appR_step tB_ok (aXk g.recs) [r] (g.recs ++ [r]) (fun _=>rfl) rfl rfl rfl rfl ?_
   conv=>whnf
   refine⟨⟨rfl,rfl,Nat.le_refl _,Nat.le_refl _,by show (g.recs.length+1) * 41≤140737488355328; omega,app1⟩, ?_⟩
   conv=>whnf
   have e3:(g.recs ++ [r]).length=g.recs.length+1:=by rw [List.length_append]; rfl
   refine⟨_,wrapId ⟨by omega,by omega⟩, ?_⟩
   refine⟨(k+1,_),hnx,by show D.length - 2 - (k+1) < D.length - 2 - k; omega, ?_⟩
   dsimp only
   rw [e3]
   conv=>whnf
   refine⟨rfl, ?_⟩
   conv=>whnf
   repeat' (first | exact e3 | exact trivial | exact rfl | refine And.intro ?_ ?_ | ((conv=>whnf); first | exact e3 | exact trivial | exact rfl | refine And.intro ?_ ?_ | omega))
 ·have hv3:(((byteF s 12).toNat:Int) == 3)=false:=(hu 3).trans (decide_eq_false b3)
  have hbeg:begF (byteF s 12)=false:=by simp [begF,b1,b3]
  have hen:endF2 (byteF s 12)=false:=by simp [endF2,b2,b3]
  rw [hv3]
  cases c3:sealedF 2 s 22 with
  | false =>
   have hbad:xbadF s q g=true:=by simp [xbadF,c3]
   conv=>whnf
   refine⟨fun hc=>?_,fun hc=>absurd hc (by simp)⟩
   conv=>whnf
   have hR:R=g.recs:=by
    rw [← hfin]
    rw [if_pos hbad]
   rw [hR]
   conv=>whnf
   repeat' (first | exact (aRow_ren rfl) | exact trivial | exact rfl | refine And.intro ?_ ?_ | ((conv=>whnf); first | exact (aRow_ren rfl) | exact trivial | exact rfl | refine And.intro ?_ ?_ | omega))
  | true =>
   conv=>whnf
   refine⟨fun hc=>absurd hc (by simp),fun hc=>?_⟩
   conv=>whnf
   refine loadA_step (l:=s) tB_ok rfl rfl rfl rfl rfl hsl.symm ?_
   conv=>whnf
   refine call_step (xbytes_t s hsl 0 8 (by decide)) rfl rfl ?_
   rw [show getF (subL s 0 (0+8))=getF (subL s 0 8) from rfl]
   conv=>whnf
   refine⟨?_, ?_, ?_⟩
   iterate 2 · repeat'(first|exact trivial|exact rfl|refine And.intro ?_ ?_|((conv=>whnf);first|exact trivial|exact rfl|refine And.intro ?_ ?_|omega))
   conv=>whnf
   refine⟨(q:Int),wrap_u64_nat q (by omega), ?_⟩
   conv=>whnf
   refine⟨fun hc=>?_,fun hc=>?_⟩
   ·have c1:¬ (getF (subL s 0 8)).toNat=q:=by
     intro e
     have hc:(((getF (subL s 0 8)).toNat:Int) != (q:Int))=true:=hc
     simp [e] at hc
    have hbad:xbadF s q g=true:=by simp [xbadF,c1]
    conv=>whnf
    have hR:R=g.recs:=by
     rw [← hfin]
     rw [if_pos hbad]
    rw [hR]
    conv=>whnf
    repeat' (first | exact (aRow_ren rfl) | exact trivial | exact rfl | refine And.intro ?_ ?_ | ((conv=>whnf); first | exact (aRow_ren rfl) | exact trivial | exact rfl | refine And.intro ?_ ?_ | omega))
   have c1:(getF (subL s 0 8)).toNat=q:=by
    have hc:(((getF (subL s 0 8)).toNat:Int) != (q:Int))=false:=hc
    simp at hc
    omega
   conv=>whnf
   refine slA_step (n:=128) (l:=s) tB_ok rfl rfl rfl rfl rfl rfl ⟨22,rfl,by decide,14,rfl,by decide, ?_⟩
   conv=>whnf
   refine b2s_step (fx:=some 128) (l:=s) tB_ok rfl rfl rfl rfl rfl rfl (by show 14+8≤_; omega) ?_
   rw [show (s.drop 14).take (subN 22 14)=subL s 14 22 from rfl]
   conv=>whnf
   refine sne_step (l:=subL s 14 22) (l':=g.link) rfl rfl rfl ?_
   conv=>whnf
   refine⟨fun hc=>?_,fun hc=>?_⟩
   ·have c2:¬ subL s 14 22=g.link:=by
     intro e
     have hc:(!decide (subL s 14 22=g.link))=true:=hc
     simp [e] at hc
    have hbad:xbadF s q g=true:=by simp [xbadF,c2]
    conv=>whnf
    have hR:R=g.recs:=by
     rw [← hfin]
     rw [if_pos hbad]
    rw [hR]
    conv=>whnf
    repeat' (first | exact (aRow_ren rfl) | exact trivial | exact rfl | refine And.intro ?_ ?_ | ((conv=>whnf); first | exact (aRow_ren rfl) | exact trivial | exact rfl | refine And.intro ?_ ?_ | omega))
   have c2:subL s 14 22=g.link:=by
    have hc:(!decide (subL s 14 22=g.link))=false:=hc
    simpa using hc
   conv=>whnf
   refine iaA_step tB_ok rfl rfl rfl rfl rfl rfl 13 rfl (by decide) ?_
   conv=>whnf
   refine⟨by show 13 < s.length; omega, ?_⟩
   rw [hb13]
   conv=>whnf
   refine⟨fun hc=>?_,fun hc=>?_⟩
   ·have c4:90 < (byteF s 13).toNat:=by
     have:=of_decide_eq_true hc
     omega
    have hbad:xbadF s q g=true:=by simp [xbadF,c4]
    conv=>whnf
    have hR:R=g.recs:=by
     rw [← hfin]
     rw [if_pos hbad]
    rw [hR]
    conv=>whnf
    repeat' (first | exact (aRow_ren rfl) | exact trivial | exact rfl | refine And.intro ?_ ?_ | ((conv=>whnf); first | exact (aRow_ren rfl) | exact trivial | exact rfl | refine And.intro ?_ ?_ | omega))
   have c4:¬ 90 < (byteF s 13).toNat:=by
    have:=of_decide_eq_false hc
    omega
   conv=>whnf
   refine iaA_step tB_ok rfl rfl rfl rfl rfl rfl 12 rfl (by decide) ?_
   conv=>whnf
   refine⟨by show 12 < s.length; omega, ?_⟩
   rw [hb12]
   conv=>whnf
   refine⟨fun hc=>?_,fun hc=>?_⟩
   ·have c5:3 < (byteF s 12).toNat:=by
     have:=of_decide_eq_true hc
     omega
    have hbad:xbadF s q g=true:=by simp [xbadF,c5]
    conv=>whnf
    have hR:R=g.recs:=by
     rw [← hfin]
     rw [if_pos hbad]
    rw [hR]
    conv=>whnf
    repeat' (first | exact (aRow_ren rfl) | exact trivial | exact rfl | refine And.intro ?_ ?_ | ((conv=>whnf); first | exact (aRow_ren rfl) | exact trivial | exact rfl | refine And.intro ?_ ?_ | omega))
   have c5:¬ 3 < (byteF s 12).toNat:=by
    have:=of_decide_eq_false hc
    omega
   have hf0:((g.f:Int) == 0)=decide (g.f=0):=by
    by_cases c0:g.f=0
    ·rw [c0]
     rfl
    ·rw [decide_eq_false c0]
     exact beq_false_of_ne (by omega)
   conv=>whnf
   refine⟨fun hc=>?_,fun hc=>?_⟩
   ·have hc:(false != ((g.f:Int) == 0))=true:=hc
    have hbad:xbadF s q g=true:=by
     rw [hf0] at hc
     exact xbad_yes hbeg hc
    conv=>whnf
    have hR:R=g.recs:=by
     rw [← hfin]
     rw [if_pos hbad]
    rw [hR]
    conv=>whnf
    repeat' (first | exact (aRow_ren rfl) | exact trivial | exact rfl | refine And.intro ?_ ?_ | ((conv=>whnf); first | exact (aRow_ren rfl) | exact trivial | exact rfl | refine And.intro ?_ ?_ | omega))
   have hc:(false != ((g.f:Int) == 0))=false:=hc
   have hbad:xbadF s q g=false:=by
    rw [hf0] at hc
    exact xbad_no hbeg hc c3 c1 c2 c4 c5
   rw [hbad] at hfin
   have hfin:(xfolF D D.length x.first (D.length - 2 - (k+1)) (k+1) (xnxF s g)).recs=R:=hfin
   have hnx:=XoI.next h htx hgf hrc (by omega) hfin
   conv=>whnf
   refine iaA_step tB_ok rfl rfl rfl rfl rfl rfl 13 rfl (by decide) ?_
   conv=>whnf
   refine⟨by show 13 < s.length; omega, ?_⟩
   rw [hb13]
   conv=>whnf
   refine⟨((byteF s 13).toNat:Int),wrapId ⟨by omega,by omega⟩, ?_⟩
   conv=>whnf
   refine⟨(30:Int)+((byteF s 13).toNat:Int),wrapId ⟨by omega,by omega⟩, ?_⟩
   conv=>whnf
   refine slA_step (n:=128) (l:=s) tB_ok rfl rfl rfl rfl rfl rfl ⟨30+(byteF s 13).toNat,by omega,by omega,30,rfl,by omega, ?_⟩
   conv=>whnf
   refine b2s_step (fx:=some 128) (l:=s) tB_ok rfl rfl rfl rfl rfl rfl (by rw [subN_eq]; show 30+(30+(byteF s 13).toNat - 30)≤_; omega) ?_
   rw [show (s.drop 30).take (subN (30+(byteF s 13).toNat) 30)=subL s 30 (30+(byteF s 13).toNat) from by rw [subN_eq]; rfl]
   conv=>whnf
   have hsub:(subL s 30 (30+(byteF s 13).toNat)).length≤90:=by
    rw [subL,List.length_take]
    omega
   refine cat_step (l:=g.text) (l':=subL s 30 (30+(byteF s 13).toNat)) rfl rfl rfl (by omega) ?_
   conv=>whnf
   refine⟨((g.f+1:Nat):Int),by dsimp only; rw [show (g.f:Int)+1=((g.f+1:Nat):Int) from by omega]; exact wrapId ⟨by omega,by omega⟩, ?_⟩
   conv=>whnf
   refine slA_step (n:=128) (l:=s) tB_ok rfl rfl rfl rfl rfl rfl ⟨30,rfl,by decide,22,rfl,by decide, ?_⟩
   conv=>whnf
   refine b2s_step (fx:=some 128) (l:=s) tB_ok rfl rfl rfl rfl rfl rfl (by show 22+8≤_; omega) ?_
   rw [show (s.drop 22).take (subN 30 22)=subL s 22 30 from rfl]
   generalize hT:g.text ++ subL s 30 (30+(byteF s 13).toNat)=T
   conv=>whnf
   have e:xnxF s g=⟨subL s 22 30,T,g.f+1,g.recs⟩:=by simp only [xnxF,hen,hT]; rfl
   rw [e] at hnx
   refine⟨fun hc=>absurd hc (by simp),fun hc=>?_⟩
   conv=>whnf
   refine⟨_,wrapId ⟨by omega,by omega⟩, ?_⟩
   refine⟨(k+1,_),hnx,by show D.length - 2 - (k+1) < D.length - 2 - k; omega, ?_⟩
   conv=>whnf
   refine⟨rfl, ?_⟩
   conv=>whnf
   repeat' (first | exact (aRow_ren rfl) | exact trivial | exact rfl | refine And.intro ?_ ?_ | ((conv=>whnf); first | exact (aRow_ren rfl) | exact trivial | exact rfl | refine And.intro ?_ ?_ | omega))

end Go.Proofs

namespace Go.Proofs
open Go.Sx

def xlOf (D:Dk) (m0:Nat):Xl:=⟨1,m0+1,(readB (atD D 1)).first.toNat,(readB (atD D 1)).dropped.toNat,(readB (atD D 1)).link⟩

theorem xopen_t (D:Dk) (hd:6≤D.length∧D.length≤65536) (hg:greatF D 2=1) (hb:isBaseF (atD D 1) 1=true) (m0:Nat) (hs:(survF D D.length).2.2=m0) (hm:m0 < 4294967295) (hf:(readB (atD D 1)).first.toNat≤1000) :
  Triple Tryz.prog 75 [.c (.p 0 0 0 0),iv .i64 0,iv .i64 D.length] (dkH D) 3 (.tup [.inl (.p 3 0 0 0), .inl (.v (.int .i64 0))])
   [(3,true, .cells (xlC D.length (xlOf D m0) 4 (xrecs D (xlOf D m0)).length)),(4,true, .arr (aXk (xrecs D (xlOf D m0))))]:=by
 have hgr:=xgreatest_t D hd
 rw [hg] at hgr
 have hfl:=xfollow_t D hd (xlOf D m0) hf
 have hbf:=isBase_first hb
 have hse:=xsector_t D 1 (by omega) hd.2
 have hal:=atD_len D 1
 generalize hx:xlOf D m0=x at hfl ⊢
 have x1:x.gen=1:=by rw [← hx]; rfl
 have x2:x.sess=m0+1:=by rw [← hx]; rfl
 have x3:(readB (atD D 1)).first.toNat=x.first:=by rw [← hx]; rfl
 have x4:(readB (atD D 1)).dropped.toNat=x.gone:=by rw [← hx]; rfl
 have x5:(readB (atD D 1)).link=x.link:=by rw [← hx]; rfl
 have y3:getF (subL (atD D 1) 20 (20+8))=(readB (atD D 1)).first:=rfl
 have y4:getF (subL (atD D 1) 28 (28+8))=(readB (atD D 1)).dropped:=rfl
 have y5:subL (atD D 1) 36 44=(readB (atD D 1)).link:=rfl
 generalize atD D 1=l at hse hal hbf x3 x4 x5 y3 y4 y5
 generalize readB l=b at hbf x3 x4 x5 y3 y4 y5
 refine triple_of tB_ok Tryz.func75 rfl Tryz.call75 rfl ?_
 intro ρ w hH
 conv=>whnf
 refine call_step (xpart_t D hd) rfl rfl ?_
 conv=>whnf
 refine⟨(by repeat' (first | exact (aRow_ren rfl) | exact trivial | exact rfl | refine And.intro ?_ ?_ | ((conv=>whnf); first | exact (aRow_ren rfl) | exact trivial | exact rfl | refine And.intro ?_ ?_ | omega))),(by repeat' (first | exact (aRow_ren rfl) | exact trivial | exact rfl | refine And.intro ?_ ?_ | ((conv=>whnf); first | exact (aRow_ren rfl) | exact trivial | exact rfl | refine And.intro ?_ ?_ | omega))), ?_⟩
 conv=>whnf
 refine⟨fun hc=>absurd hc (by simp),fun hc=>?_⟩
 conv=>whnf
 refine call_step hgr rfl rfl ?_
 conv=>whnf
 refine⟨(by repeat' (first | exact (aRow_ren rfl) | exact trivial | exact rfl | refine And.intro ?_ ?_ | ((conv=>whnf); first | exact (aRow_ren rfl) | exact trivial | exact rfl | refine And.intro ?_ ?_ | omega))),(by repeat' (first | exact (aRow_ren rfl) | exact trivial | exact rfl | refine And.intro ?_ ?_ | ((conv=>whnf); first | exact (aRow_ren rfl) | exact trivial | exact rfl | refine And.intro ?_ ?_ | omega))), ?_⟩
 conv=>whnf
 refine call_step (xnext_t D hd m0 hs (by omega)) rfl rfl ?_
 conv=>whnf
 refine⟨(by repeat' (first | exact (aRow_ren rfl) | exact trivial | exact rfl | refine And.intro ?_ ?_ | ((conv=>whnf); first | exact (aRow_ren rfl) | exact trivial | exact rfl | refine And.intro ?_ ?_ | omega))),(by repeat' (first | exact (aRow_ren rfl) | exact trivial | exact rfl | refine And.intro ?_ ?_ | ((conv=>whnf); first | exact (aRow_ren rfl) | exact trivial | exact rfl | refine And.intro ?_ ?_ | omega))), ?_⟩
 conv=>whnf
 refine⟨fun hc=>absurd hc (by simp),fun hc=>?_⟩
 conv=>whnf
 refine⟨fun hc=>?_,fun hc=>?_⟩
 ·exact absurd (of_decide_eq_true hc) (by omega)
 conv=>whnf
 refine⟨by decide,(1:Int),by decide, ?_⟩
 conv=>whnf
 refine call_step hse rfl rfl ?_
 conv=>whnf
 refine⟨(by repeat' (first | exact (aRow_ren rfl) | exact trivial | exact rfl | refine And.intro ?_ ?_ | ((conv=>whnf); first | exact (aRow_ren rfl) | exact trivial | exact rfl | refine And.intro ?_ ?_ | omega))),(by repeat' (first | exact (aRow_ren rfl) | exact trivial | exact rfl | refine And.intro ?_ ?_ | ((conv=>whnf); first | exact (aRow_ren rfl) | exact trivial | exact rfl | refine And.intro ?_ ?_ | omega))), ?_⟩
 conv=>whnf
 refine allocA_step tB_ok 128 rfl rfl rfl ?_
 conv=>whnf
 refine storeA_step (l':=l) tB_ok rfl rfl rfl rfl rfl (by simp) (by rw [hal]; simp) (by decide) ?_
 conv=>whnf
 refine loadA_step (l:=l) tB_ok rfl rfl rfl rfl rfl hal.symm ?_
 conv=>whnf
 refine call_step (xbytes_t l hal 20 8 (by decide)) rfl rfl ?_
 rw [y3]
 conv=>whnf
 refine⟨?_, ?_, ?_⟩
 iterate 2 · repeat'(first|exact trivial|exact rfl|refine And.intro ?_ ?_|((conv=>whnf);first|exact trivial|exact rfl|refine And.intro ?_ ?_|omega))
 conv=>whnf
 refine⟨(x.first:Int),by rw [x3]; exact wrapId ⟨by omega,by omega⟩, ?_⟩
 conv=>whnf
 refine loadA_step (l:=l) tB_ok rfl rfl rfl rfl rfl hal.symm ?_
 conv=>whnf
 refine call_step (xbytes_t l hal 28 8 (by decide)) rfl rfl ?_
 rw [y4]
 conv=>whnf
 refine⟨?_, ?_, ?_⟩
 iterate 2 · repeat'(first|exact trivial|exact rfl|refine And.intro ?_ ?_|((conv=>whnf);first|exact trivial|exact rfl|refine And.intro ?_ ?_|omega))
 conv=>whnf
 refine⟨(x.gone:Int),by rw [x4]; exact wrapId ⟨by omega,by omega⟩, ?_⟩
 conv=>whnf
 refine slA_step (n:=128) (l:=l) tB_ok rfl rfl rfl rfl rfl rfl ⟨44,rfl,by decide,36,rfl,by decide, ?_⟩
 conv=>whnf
 refine b2s_step (fx:=some 128) (l:=l) tB_ok rfl rfl rfl rfl rfl rfl (by show 36+8≤_; omega) ?_
 rw [show (l.drop 36).take (subN 44 36)=x.link from (show subL l 36 44=_ from y5.trans x5)]
 conv=>whnf
 have x1':(1:Int)=(x.gen:Int):=by rw [x1]; rfl
 have x2':((m0+1:Nat):Int)=(x.sess:Int):=by rw [x2]
 refine call_step hfl rfl rfl ?_
 conv=>whnf
 refine⟨(by repeat' (first | exact (aRow_ren rfl) | exact trivial | exact rfl | refine And.intro ?_ ?_ | ((conv=>whnf); first | exact (aRow_ren rfl) | exact trivial | exact rfl | refine And.intro ?_ ?_ | omega))),(by repeat' (first | exact (aRow_ren rfl) | exact x1' | exact x2' | exact trivial | exact rfl | refine And.intro ?_ ?_ | ((conv=>whnf); first | exact (aRow_ren rfl) | exact x1' | exact x2' | exact trivial | exact rfl | refine And.intro ?_ ?_ | omega))), ?_⟩
 conv=>whnf
 repeat' (first | exact (aRow_ren rfl) | exact trivial | exact rfl | refine And.intro ?_ ?_ | ((conv=>whnf); first | exact (aRow_ren rfl) | exact trivial | exact rfl | refine And.intro ?_ ?_ | omega))

end Go.Proofs

namespace Go
namespace Sx

end Sx
end Go

namespace Go
namespace Sx

abbrev SMs:Type:=List (List UInt8 × List UInt8)

abbrev stV (l:List UInt8):Value:=.string (S l)

def SMObj (M:SMs) (x:Obj):Prop :=
  ∃ es clock,x=.map es clock∧es.toList.map (fun e=>(e.key,e.val))=M.map (fun p=>(stV p.1,stV p.2))∧(M.map Prod.fst).Nodup

def smO (M:SMs):SO:=.raw (SMObj M)

def lookSM (M:SMs) (k:List UInt8):List UInt8 × Bool:=match M.find? (fun p=>p.1 == k) with
  | some p=>(p.2,true)
  | none=>([],false)

def putSM:SMs → List UInt8 → List UInt8 → SMs
  | [],k,v=>[(k,v)]
  | p :: r,k,v=>if p.1=k then (k,v) :: r else p :: putSM r k v

theorem mkmapT_step {cx:Cx} {o:Oper} {e:Env} {H:Heap} {nx:Nat} {K:Eff → Prop} {t:TypeId} (ho:o.op=.makeMap t none)
    (h:K ⟨.c (.m nx),[],[(nx,true,smO [])],[nx]⟩):∃ F,CallOK cx o e H nx F∧K F:=by
  refine⟨_,⟨loc_new (by simp [ho]) (by rw [SV.below_c]; intro j hj; simp [SC.nms] at hj; omega) ?_ ?_,fun j hj=>by simp at hj; subst hj; simp⟩,h⟩
  · intro n _ j hj
    simp [smO,SO.uses] at hj
  · intro ρ a w _ _
    refine⟨.map (some w.heap.size), .map #[] 0,0, ?_, ?_, ?_⟩
    · simp only [execOp,ho,Sem.run_bind,Option.mapM_none]
      rfl
    · simp only [SV.rel,SC.rel,upd_eq]
    · refine⟨trivial,(fun i j c hc=>by simp [smO,SO.cell?] at hc),(fun _ hx=>absurd rfl (hx _)),(fun _=>by rw [upd_eq]),(fun Ψ hΨ=>?_),(fun _ hb=>by cases hb),(fun _ hb=>by cases hb),(fun _ hb=>by cases hb)⟩
      cases hΨ
      rw [upd_eq]
      exact⟨_,push_new w _,#[],0,rfl,by simp,by simp⟩

theorem lookSM_get {M:SMs} {k:List UInt8} {p:List UInt8 × List UInt8} {j:Nat} (hd:(M.map Prod.fst).Nodup) (h:M[j]? = some p) (hk:p.1=k):lookSM M k=(p.2,true):=by
  unfold lookSM
  induction M generalizing j with
  | nil=>simp at h
  | cons q M ih =>
    have hd':=List.nodup_cons.1 (show (q.1 :: M.map Prod.fst).Nodup from hd)
    cases j with
    | zero =>
      simp at h; subst h
      simp [hk]
    | succ j =>
      have h:M[j]? = some p:=by simpa using h
      have hm:p.1 ∈ M.map Prod.fst:=List.mem_map.2 ⟨p,List.mem_of_getElem? h,rfl⟩
      have hne:¬ q.1=k:=fun e=>hd'.1 (by rw [e,← hk]; exact hm)
      have hb:(q.1 == k)=false:=by simpa using hne
      rw [List.find?_cons_of_neg (by simp [hb])]
      exact ih hd'.2 h

theorem lookSM_none {M:SMs} {k:List UInt8} (h:∀ p ∈ M,p.1 ≠ k):lookSM M k=([],false):=by
  unfold lookSM
  rw [List.find?_eq_none.2 (fun p hp=>by simpa using h p hp)]

theorem putSM_get {M:SMs} {k v:List UInt8} {p:List UInt8 × List UInt8} {j:Nat} (hd:(M.map Prod.fst).Nodup) (h:M[j]? = some p) (hk:p.1=k):putSM M k v=M.set j (k,v):=by
  induction M generalizing j with
  | nil=>simp at h
  | cons q M ih =>
    have hd':=List.nodup_cons.1 (show (q.1 :: M.map Prod.fst).Nodup from hd)
    cases j with
    | zero=>simp at h; subst h; simp [putSM,hk]
    | succ j =>
      have h:M[j]? = some p:=by simpa using h
      have hm:p.1 ∈ M.map Prod.fst:=List.mem_map.2 ⟨p,List.mem_of_getElem? h,rfl⟩
      have hne:¬ q.1=k:=fun e=>hd'.1 (by rw [e,← hk]; exact hm)
      simp only [putSM,if_neg hne,List.set_cons_succ]
      rw [ih hd'.2 h]

theorem putSM_none {M:SMs} {k v:List UInt8} (h:∀ p ∈ M,p.1 ≠ k):putSM M k v=M ++ [(k,v)]:=by
  induction M with
  | nil=>rfl
  | cons q M ih =>
    simp only [putSM,if_neg (h q (.head _)),List.cons_append]
    rw [ih fun p hp=>h p (.tail _ hp)]

theorem putSM_keys (M:SMs) (k v:List UInt8) (hd:(M.map Prod.fst).Nodup):((putSM M k v).map Prod.fst).Nodup∧∀ x,x ∈ (putSM M k v).map Prod.fst → x=k ∨ x ∈ M.map Prod.fst:=by
  induction M with
  | nil=>exact⟨by simp [putSM],fun x hx=>.inl (by simpa [putSM] using hx)⟩
  | cons q M ih =>
    have hd':=List.nodup_cons.1 (show (q.1 :: M.map Prod.fst).Nodup from hd)
    by_cases hq:q.1=k
    · simp only [putSM,if_pos hq]
      refine⟨List.nodup_cons.2 ⟨by rw [← hq]; exact hd'.1,hd'.2⟩,fun x hx=>?_⟩
      rcases List.mem_cons.1 hx with h | h
      · exact .inl h
      · exact .inr (List.mem_cons.2 (.inr h))
    · simp only [putSM,if_neg hq]
      obtain ⟨h1,h2⟩:=ih hd'.2
      refine⟨List.nodup_cons.2 ⟨fun h=>?_,h1⟩,fun x hx=>?_⟩
      · rcases h2 _ h with h | h
        · exact hq h
        · exact hd'.1 h
      · rcases List.mem_cons.1 hx with h | h
        · exact .inr (List.mem_cons.2 (.inl h))
        · rcases h2 _ h with h | h
          · exact .inl h
          · exact .inr (List.mem_cons.2 (.inr h))

theorem sm_find {P:Program} {w:World} {kt:TypeId} (hu:P.underlying kt=some .string) {M:SMs} {es:List MapEntry} (h:es.map (fun e=>(e.key,e.val))=M.map (fun p=>(stV p.1,stV p.2))) (k:List UInt8) :
    ((Instr.findKey kt (stV k) es).run P w=.ok none w∧∀ p ∈ M,p.1 ≠ k) ∨ ∃ j p e,(Instr.findKey kt (stV k) es).run P w=.ok (some (j,stV p.2)) w∧M[j]? = some p∧p.1=k∧es[j]? = some e∧e.key=stV k:=by
  have hkey:MapKept.IsKey .string (stV k):=trivial
  have hall:∀ x ∈ es,MapKept.IsKey .string x.key:=fun x hx=>by
    have:(x.key,x.val) ∈ M.map (fun p=>(stV p.1,stV p.2)):=by rw [← h]; exact List.mem_map.2 ⟨x,hx,rfl⟩
    obtain ⟨p,_,hpe⟩:=List.mem_map.1 this
    rw [show x.key=stV p.1 from (congrArg Prod.fst hpe).symm]; trivial
  rcases MapKept.findNow_spec hkey es 0 hall with ⟨h1,h2⟩ | ⟨j,e',h1,h2,h3⟩
  · refine .inl ⟨MapKept.run_findKey hu h1,fun p hp hpk=>?_⟩
    have:(stV p.1,stV p.2) ∈ es.map (fun e=>(e.key,e.val)):=by rw [h]; exact List.mem_map.2 ⟨p,hp,rfl⟩
    obtain ⟨x,hx,hxe⟩:=List.mem_map.1 this
    exact h2 x hx ((congrArg Prod.fst hxe).trans (by show stV p.1=stV k; rw [hpk]))
  · have h4:(es.map (fun e=>(e.key,e.val)))[j]? = some (e'.key,e'.val):=by rw [List.getElem?_map,h2]; rfl
    rw [h,List.getElem?_map] at h4
    obtain ⟨p,hp,hpe⟩:=Option.map_eq_some_iff.1 h4
    have hk1:stV p.1=e'.key:=congrArg Prod.fst hpe
    have hk2:stV p.2=e'.val:=congrArg Prod.snd hpe
    have hpk:p.1=k:=by
      have:stV p.1=stV k:=hk1.trans h3
      exact S_inj.1 (by injection this)
    refine .inr ⟨j,p,e', ?_,hp,hpk,h2,h3⟩
    rw [hk2]
    rw [Nat.zero_add] at h1
    exact MapKept.run_findKey hu h1

theorem lookSM_step {cx:Cx} {B:Tabs} (hB:TabsOK cx.P B) {o:Oper} {e:Env} {H:Heap} {nx:Nat} {K:Eff → Prop} {t:TypeId} {x y:Operand} {kt et s0 b0:TypeId} {z0:List Value} {k:Nat} {own:Bool} {M:SMs} {l:List UInt8}
    (hu:cx.P.underlying kt=some .string) (hz0:∀ w,(zeroValue et).run cx.P w=.ok (stV []) w) (ho:o.op=.lookup t x y true) (ht:lookT B.T t=some ⟨.map kt et,s0,b0,z0⟩)
    (hx:ev e x=.c (.m k)) (hy:ev e y=strV l) (hl:look H k=some (own,smO M))
    (hK:K ⟨.tup [.inl (strC (lookSM M l).1), .inl (.v (.bool (lookSM M l).2))],[k],[],[]⟩):∃ F,CallOK cx o e H nx F∧K F:=by
  have hxo:x ∈ o.op.operands.toList:=by simp [ho,Op.operands]
  have hyo:y ∈ o.op.operands.toList:=by simp [ho,Op.operands]
  refine⟨_,⟨?_,fun j hj=>by cases hj⟩,hK⟩
  intro ρ s a w hs hr hk _ hdst KK Q hKK
  have hl1:look s.H k=some (own, .raw (SMObj M)):=by rw [hk k (by simp)]; exact hl
  have hx1:=reads_fit hxo (fun t ht=>by rw [← hr t ht]; exact hs.env t)
  have hy1:=reads_fit hyo (fun t ht=>by rw [← hr t ht]; exact hs.env t)
  rw [hx] at hx1
  simp only [SV.rel,SC.rel] at hx1
  rw [hy] at hy1
  have hya:a.eval y=stV l:=hy1
  obtain ⟨ob,hob,es,clock,rfl,hes,hd⟩:=(hs.heap.reg k own _ hl1).keys _ rfl
  have hrun:(execOp a.eval o).run cx.P w=.ok (.value (.tuple #[stV (lookSM M l).1, .bool (lookSM M l).2])) w:=by
    have hchk:=fun em=>MapKept.run_checkKey (w:=w) hu (show MapKept.IsKey .string (stV l) from trivial) em 9999
    rcases sm_find (w:=w) hu hes l with ⟨h1,h2⟩ | ⟨j,p,e',h1,h2,h3,h4,h5⟩
    · rw [lookSM_none h2]
      simp only [execOp,ho,Instr.lookup,hx1,hya,Sem.run_bind,run_underlying (und_map hB ht),Result.andThen_ok,MapKept.run_getObj_map hob,Sem.run_pure,hchk,h1,hz0]
      simp
    · rw [lookSM_get hd h2 h3]
      simp only [execOp,ho,Instr.lookup,hx1,hya,Sem.run_bind,run_underlying (und_map hB ht),Result.andThen_ok,MapKept.run_getObj_map hob,Sem.run_pure,hchk,h1]
      simp
  refine wpIn_of_value (by simp [ho]) hrun (hKK ρ _ w ?_ (fun _ _=>rfl))
  refine hs.putO hdst ?_ ?_
  · exact⟨_,rfl,rfl,rfl,trivial⟩
  · intro j hj
    cases hj

theorem upSM_step {cx:Cx} {B:Tabs} (hB:TabsOK cx.P B) {o:Oper} {e:Env} {H:Heap} {nx:Nat} {K:Eff → Prop} {t:TypeId} {x y z:Operand} {kt et s0 b0:TypeId} {z0:List Value} {k:Nat} {M:SMs} {l v:List UInt8}
    (hu:cx.P.underlying kt=some .string) (ho:o.op=.mapUpdate t x y z) (ht:lookT B.T t=some ⟨.map kt et,s0,b0,z0⟩)
    (hx:ev e x=.c (.m k)) (hy:ev e y=strV l) (hz:ev e z=strV v) (hl:look H k=some (true,smO M))
    (hK:K ⟨.c .junk,[k],[(k,true,smO (putSM M l v))],[]⟩):∃ F,CallOK cx o e H nx F∧K F:=by
  have hxo:x ∈ o.op.operands.toList:=by simp [ho,Op.operands]
  have hyo:y ∈ o.op.operands.toList:=by simp [ho,Op.operands]
  have hzo:z ∈ o.op.operands.toList:=by simp [ho,Op.operands]
  refine⟨_,⟨?_,fun j hj=>by cases hj⟩,hK⟩
  intro ρ s a w hs hr hk _ hdst KK Q hKK
  have hl1:look s.H k=some (true, .raw (SMObj M)):=by rw [hk k (by simp)]; exact hl
  have hx1:=reads_fit hxo (fun t ht=>by rw [← hr t ht]; exact hs.env t)
  have hy1:=reads_fit hyo (fun t ht=>by rw [← hr t ht]; exact hs.env t)
  have hz1:=reads_fit hzo (fun t ht=>by rw [← hr t ht]; exact hs.env t)
  rw [hx] at hx1
  simp only [SV.rel,SC.rel] at hx1
  rw [hy] at hy1
  rw [hz] at hz1
  have hya:a.eval y=stV l:=hy1
  have hza:a.eval z=stV v:=hz1
  obtain ⟨ob,hob,es,clock,rfl,hes,hd⟩:=(hs.heap.reg k true _ hl1).keys _ rfl
  have hrun:∃ es' clock',(execOp a.eval o).run cx.P w=.ok .skip (w.putObj (ρ k).blk (.map es' clock'))∧SMObj (putSM M l v) (.map es' clock'):=by
    have hchk:=fun em=>MapKept.run_checkKey (w:=w) hu (show MapKept.IsKey .string (stV l) from trivial) em 9999
    rcases sm_find (w:=w) hu hes l with ⟨h1,h2⟩ | ⟨j,p,e',h1,h2,h3,h4,h5⟩
    · refine⟨es.push { key:=stV l,val:=stV v,born:=clock },clock+1, ?_,_,_,rfl, ?_,(putSM_keys M l v hd).1⟩
      · simp only [execOp,ho,Instr.mapUpdate,hx1,hya,hza,Sem.run_bind,run_underlying (und_map hB ht),Result.andThen_ok,MapKept.run_getObj_map hob,Sem.run_pure,hchk,h1,MapKept.run_setObj_map _ hob]
        rfl
      · rw [putSM_none h2]
        simp [hes]
    · have h4':es[j]? = some e':=by rw [← h4]; simp
      refine⟨es.modify j fun e=>{ e with key:=stV l,val:=stV v },clock, ?_,_,_,rfl, ?_,(putSM_keys M l v hd).1⟩
      · have hst:=MapKept.run_keyThatStays (P:=cx.P) (w:=w) (d:=.string) (k:=stV l) trivial
        simp only [execOp,ho,Instr.mapUpdate,hx1,hya,hza,Sem.run_bind,run_underlying (und_map hB ht),Result.andThen_ok,MapKept.run_getObj_map hob,Sem.run_pure,hchk,h1,h4',Option.map_some,Option.getD_some,h5,hst,MapKept.run_setObj_map _ hob]
        rfl
      · rw [putSM_get hd h2 h3]
        refine List.ext_getElem? fun i=>?_
        have hes':∀ i:Nat,(es.toList[i]?).map (fun e:MapEntry=>(e.key,e.val))=(M[i]?).map (fun p=>(stV p.1,stV p.2)):=fun i=>by rw [← List.getElem?_map,hes,List.getElem?_map]
        rw [List.getElem?_map,List.getElem?_map,Array.getElem?_toList,Array.getElem?_modify,List.getElem?_set]
        have hi:=hes' i
        rw [Array.getElem?_toList] at hi
        by_cases hij:j=i
        · subst hij
          have hlt:j < M.length:=(List.getElem?_eq_some_iff.1 h2).1
          rw [if_pos rfl,if_pos rfl,if_pos hlt,h4']
          rfl
        · rw [if_neg hij,if_neg hij]
          exact hi
  obtain ⟨es',clock',hrun,hset⟩:=hrun
  have hs':=hs.setObj hl1 (.map es' clock') hset
  refine wpIn_of_skip (by simp [ho]) hrun (hKK ρ _ _ ?_ (fun _ _=>rfl))
  exact hs'.putO (sv:=.c .junk) hdst trivial (by rw [SV.below_c]; intro j hj; cases hj)

end Sx
end Go

