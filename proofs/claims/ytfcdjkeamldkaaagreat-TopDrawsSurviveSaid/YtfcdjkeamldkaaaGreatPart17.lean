/-
  A part of the proof that a law answers true: lemmas of a symbolic walk, plain functions, or contracts of the functions walked (V6, V7, V8, V9). Conditions: none.
-/
import Derived.Test.YtfcdjkeamldkaaaGreatPart16
set_option maxRecDepth 100000
set_option linter.unusedVariables false
set_option linter.unusedSimpArgs false
namespace Go.Proofs
open Go.Sx

abbrev partC (n:Nat):List SC:=[.p 0 0 0 0, .v (.int .i64 0), .v (.int .i64 n)]

theorem partOf_t (D:Dk) (h:6≤D.length∧D.length≤65536):Triple Tryz.prog 66 [.c (.p 0 0 0 0),iv .i64 0,iv .i64 D.length] (dkH D) 3 (.tup [.inr (partC D.length), .inl (.v (.int .i64 0))]) []:=by
 refine triple_of tB_ok Tryz.func66 rfl Tryz.call66 rfl ?_
 intro ρ w hH
 conv=>whnf
 refine⟨fun hc=>?_,fun hc=>?_⟩
 ·exact absurd (of_decide_eq_true hc) (by omega)
 conv=>whnf
 refine⟨fun hc=>absurd hc (by simp),fun hc=>?_⟩
 conv=>whnf
 refine⟨fun hc=>?_,fun hc=>?_⟩
 ·exact absurd (of_decide_eq_true hc) (by omega)
 conv=>whnf
 refine⟨0,by rw [Int.sub_self]; rfl, ?_⟩
 conv=>whnf
 refine⟨fun hc=>absurd hc (by simp),fun hc=>?_⟩
 conv=>whnf
 refine⟨fun hc=>absurd hc (by simp),fun hc=>?_⟩
 conv=>whnf
 repeat' (first | exact (aRow_ren rfl) | exact trivial | exact rfl | refine And.intro ?_ ?_ | ((conv=>whnf); first | exact (aRow_ren rfl) | exact trivial | exact rfl | refine And.intro ?_ ?_ | omega))

theorem secAt_t (D:Dk) (i:Nat) (h:i < D.length) (hl:D.length≤65536):Triple Tryz.prog 69 [.agg (partC D.length),iv .i64 i] (dkH D) 3 (.c (.p 3 0 1 0)) [(3,true, .arr (aU8 (some 128) (seenF D[i]).l))]:=by
 refine triple_of tB_ok Tryz.func69 rfl Tryz.call69 rfl ?_
 intro ρ w hH
 conv=>whnf
 refine⟨(i:Int),by rw [Int.zero_add]; exact wrapId ⟨by omega,by omega⟩, ?_⟩
 conv=>whnf
 refine call_step (read_t D i h) rfl rfl ?_
 conv=>whnf
 refine⟨(by repeat' (first | exact (aRow_ren rfl) | exact trivial | exact rfl | refine And.intro ?_ ?_ | ((conv=>whnf); first | exact (aRow_ren rfl) | exact trivial | exact rfl | refine And.intro ?_ ?_ | omega))),(by repeat' (first | exact (aRow_ren rfl) | exact trivial | exact rfl | refine And.intro ?_ ?_ | ((conv=>whnf); first | exact (aRow_ren rfl) | exact trivial | exact rfl | refine And.intro ?_ ?_ | omega))), ?_⟩
 conv=>whnf
 refine allocA_step tB_ok 128 rfl rfl rfl ?_
 conv=>whnf
 refine storeA_step (l':=(seenF D[i]).l) tB_ok rfl rfl rfl rfl rfl (by simp) (by rw [(seenF D[i]).h]; simp) (by decide) ?_
 conv=>whnf
 repeat' (first | exact (aRow_ren rfl) | exact trivial | exact rfl | refine And.intro ?_ ?_ | ((conv=>whnf); first | exact (aRow_ren rfl) | exact trivial | exact rfl | refine And.intro ?_ ?_ | omega))

theorem slot_t (D:Dk) (n:Nat) (hn:6≤n∧n≤65536) (q:Nat) (hq:q≤4611686018427387905):Triple Tryz.prog 70 [.agg (partC n),iv .u64 q] (dkH D) 3 (iv .i64 ((2+q % (n - 2):Nat):Int)) []:=by
 refine triple_of tB_ok Tryz.func70 rfl Tryz.call70 rfl ?_
 intro ρ w hH
 conv=>whnf
 refine⟨((n - 2:Nat):Int),by rw [show (n:Int) - 2=((n - 2:Nat):Int) from by omega]; exact wrapId ⟨by omega,by omega⟩, ?_⟩
 conv=>whnf
 refine⟨((n - 2:Nat):Int),wrap_u64_nat _ (by omega), ?_⟩
 conv=>whnf
 have hm:=Nat.mod_lt q (show 0 < n - 2 by omega)
 refine⟨by omega,((q % (n - 2):Nat):Int),(Int.ofNat_tmod q (n - 2)).symm, ?_⟩
 conv=>whnf
 refine⟨((q % (n - 2):Nat):Int),wrapId ⟨by omega,by omega⟩, ?_⟩
 conv=>whnf
 refine⟨((2+q % (n - 2):Nat):Int),by rw [show (2:Int)+((q % (n - 2):Nat):Int)=((2+q % (n - 2):Nat):Int) from by omega]; exact wrapId ⟨by omega,by omega⟩, ?_⟩
 conv=>whnf
 repeat'(first|exact trivial|exact rfl|refine And.intro ?_ ?_|((conv=>whnf);first|exact trivial|exact rfl|refine And.intro ?_ ?_|omega))

abbrev Sv:=Bs × Bool × Nat

def survStep (l:List UInt8) (i:Nat) (s:Sv):Sv :=
 if 2≤i then (if sealedF 2 l 22 then (s.1,s.2.1,max s.2.2 (getF (subL l 8 12)).toNat) else s)
 else if isBaseF l i then (if !s.2.1 || decide (s.1.gen.toNat < (readB l).gen.toNat) then (readB l,true,max s.2.2 (readB l).session.toNat) else (s.1,s.2.1,max s.2.2 (readB l).session.toNat)) else s

def atD (D:Dk) (i:Nat):List UInt8:=(seenF (D.getD i (zSct,none))).l

def survF (D:Dk):Nat → Sv
 | 0=>(⟨0,0,0,0,[]⟩,false,0)
 | i+1=>survStep (atD D i) i (survF D i)

theorem atD_eq (D:Dk) {i:Nat} (h:i < D.length):(seenF D[i]).l=atD D i:=by
 unfold atD; rw [List.getD_eq_getElem?_getD,List.getElem?_eq_getElem h]; rfl

theorem atD_len (D:Dk) (i:Nat):(atD D i).length=128:=(seenF _).h


theorem survey_t (D:Dk) (hd:6≤D.length∧D.length≤65536) (S:Sv) (hs:survF D D.length=S) (hn:S.2.2≤4611686018427387904):Triple Tryz.prog 67 [.agg (partC D.length)] (dkH D) 3
  (.tup [.inr (bsC S.1), .inl (.v (.bool S.2.1)), .inl (.v (.int .u64 ((S.2.2+1:Nat):Int)))]) []:=by
 refine triple_of tB_ok Tryz.func67 rfl Tryz.call67 rfl ?_
 intro ρ w hH
 conv=>whnf
 refine loop_step tB_ok (G:=Nat × Sv) 0 [] (fun g=>[(11,iv .i64 g.1),(3, .c (.v (.bool g.2.2.1))),(4,iv .u64 g.2.2.2)]) (fun g=>[(4,true, .cells (bsC g.2.1))]) (fun g=>g.1≤D.length∧survF D g.1=g.2) (fun g=>D.length - g.1) ?_
 conv=>whnf
 refine⟨⟨(0,survF D 0),⟨Nat.zero_le _,rfl⟩, ?_⟩, ?_⟩
 ·conv=>whnf
  repeat' (first | exact (aRow_ren rfl) | exact trivial | exact rfl | refine And.intro ?_ ?_ | ((conv=>whnf); first | exact (aRow_ren rfl) | exact trivial | exact rfl | refine And.intro ?_ ?_ | omega))
 rintro ⟨i,s⟩ ⟨hi,hS⟩ ρ1 t1 hρ1
 have hi:i≤D.length:=hi
 have hS:survF D i=s:=hS
 conv=>whnf
 refine⟨fun hc=>?_,fun hc=>?_⟩
 rotate_left
 ·have hie:i=D.length:=by have:=of_decide_eq_false hc; omega
  have hsS:s=S:=by rw [← hS,hie,hs]
  subst hsS
  conv=>whnf
  refine⟨((s.2.2+1:Nat):Int),wrap_u64_nat (s.2.2+1) (by omega), ?_⟩
  conv=>whnf
  repeat' (first | exact (aRow_ren rfl) | exact trivial | exact rfl | refine And.intro ?_ ?_ | ((conv=>whnf); first | exact (aRow_ren rfl) | exact trivial | exact rfl | refine And.intro ?_ ?_ | omega))
 have h:i < D.length:=by have:=of_decide_eq_true hc; omega
 conv=>whnf
 refine call_step (secAt_t D i h hd.2) rfl rfl ?_
 rw [atD_eq D h]
 generalize hL:atD D i=l
 have hl:l.length=128:=by rw [← hL]; exact atD_len D i
 conv=>whnf
 refine⟨(by repeat' (first | exact (aRow_ren rfl) | exact trivial | exact rfl | refine And.intro ?_ ?_ | ((conv=>whnf); first | exact (aRow_ren rfl) | exact trivial | exact rfl | refine And.intro ?_ ?_ | omega))),(by repeat' (first | exact (aRow_ren rfl) | exact trivial | exact rfl | refine And.intro ?_ ?_ | ((conv=>whnf); first | exact (aRow_ren rfl) | exact trivial | exact rfl | refine And.intro ?_ ?_ | omega))), ?_⟩
 conv=>whnf
 refine⟨fun hc=>?_,fun hc=>?_⟩
 ·have c2:2≤i:=by have:=of_decide_eq_true hc; omega
  conv=>whnf
  refine call_step (sealed_t 2 (by decide) l hl 22 (by decide)) rfl rfl ?_
  conv=>whnf
  refine⟨(by repeat' (first | exact (aRow_ren rfl) | exact trivial | exact rfl | refine And.intro ?_ ?_ | ((conv=>whnf); first | exact (aRow_ren rfl) | exact trivial | exact rfl | refine And.intro ?_ ?_ | omega))),(by repeat' (first | exact (aRow_ren rfl) | exact trivial | exact rfl | refine And.intro ?_ ?_ | ((conv=>whnf); first | exact (aRow_ren rfl) | exact trivial | exact rfl | refine And.intro ?_ ?_ | omega))), ?_⟩
  conv=>whnf
  cases hsl:sealedF 2 l 22 with
  | true =>
   refine⟨fun hc=>?_,fun hc=>absurd hc (by simp)⟩
   conv=>whnf
   refine slA_step (n:=128) (l:=l) tB_ok rfl rfl rfl rfl rfl rfl ⟨12,rfl,by decide,8,rfl,by decide, ?_⟩
   conv=>whnf
   refine call_step (get_t (some 128) l 8 4 (by omega) (by decide)) rfl rfl ?_
   rw [show getF ((l.drop 8).take 4)=getF (subL l 8 12) from rfl]
   conv=>whnf
   refine⟨?_, ?_, ?_⟩
   iterate 2 · repeat'(first|exact trivial|exact rfl|refine And.intro ?_ ?_|((conv=>whnf);first|exact trivial|exact rfl|refine And.intro ?_ ?_|omega))
   have hmx:max (s.2.2:Int) ((getF (subL l 8 12)).toNat:Int)=((max s.2.2 (getF (subL l 8 12)).toNat:Nat):Int):=by omega
   conv=>whnf
   dsimp only
   rw [hmx]
   conv=>whnf
   refine⟨_,wrapId ⟨by omega,by omega⟩, ?_⟩
   refine⟨(i+1,(s.1,s.2.1,max s.2.2 (getF (subL l 8 12)).toNat)),⟨h, ?_⟩,by show D.length - (i+1) < D.length - i; omega, ?_⟩
   ·show survStep (atD D i) i (survF D i)=_
    rw [hS,hL]; simp [survStep,c2,hsl]
   conv=>whnf
   refine⟨rfl, ?_⟩
   conv=>whnf
   repeat' (first | exact (aRow_ren rfl) | exact trivial | exact rfl | refine And.intro ?_ ?_ | ((conv=>whnf); first | exact (aRow_ren rfl) | exact trivial | exact rfl | refine And.intro ?_ ?_ | omega))
  | false =>
   refine⟨fun hc=>absurd hc (by simp),fun hc=>?_⟩
   conv=>whnf
   refine⟨_,wrapId ⟨by omega,by omega⟩, ?_⟩
   refine⟨(i+1,s),⟨h, ?_⟩,by show D.length - (i+1) < D.length - i; omega, ?_⟩
   ·show survStep (atD D i) i (survF D i)=_
    rw [hS,hL]; simp [survStep,c2,hsl]
   conv=>whnf
   refine⟨rfl, ?_⟩
   conv=>whnf
   repeat' (first | exact (aRow_ren rfl) | exact trivial | exact rfl | refine And.intro ?_ ?_ | ((conv=>whnf); first | exact (aRow_ren rfl) | exact trivial | exact rfl | refine And.intro ?_ ?_ | omega))
 ·have c2:i < 2:=by have:=of_decide_eq_false hc; omega
  have c2':¬ 2≤i:=by omega
  conv=>whnf
  refine call_step (baseOf_t l hl i (by omega)) rfl rfl ?_
  conv=>whnf
  refine⟨(by repeat' (first | exact (aRow_ren rfl) | exact trivial | exact rfl | refine And.intro ?_ ?_ | ((conv=>whnf); first | exact (aRow_ren rfl) | exact trivial | exact rfl | refine And.intro ?_ ?_ | omega))),(by repeat' (first | exact (aRow_ren rfl) | exact trivial | exact rfl | refine And.intro ?_ ?_ | ((conv=>whnf); first | exact (aRow_ren rfl) | exact trivial | exact rfl | refine And.intro ?_ ?_ | omega))), ?_⟩
  conv=>whnf
  cases hb:isBaseF l i with
  | false =>
   refine⟨fun hc=>absurd hc (by simp),fun hc=>?_⟩
   conv=>whnf
   refine⟨_,wrapId ⟨by omega,by omega⟩, ?_⟩
   refine⟨(i+1,s),⟨h, ?_⟩,by show D.length - (i+1) < D.length - i; omega, ?_⟩
   ·show survStep (atD D i) i (survF D i)=_
    rw [hS,hL]; simp [survStep,c2',hb]
   conv=>whnf
   refine⟨rfl, ?_⟩
   conv=>whnf
   repeat' (first | exact (aRow_ren rfl) | exact trivial | exact rfl | refine And.intro ?_ ?_ | ((conv=>whnf); first | exact (aRow_ren rfl) | exact trivial | exact rfl | refine And.intro ?_ ?_ | omega))
  | true =>
   refine⟨fun hc=>?_,fun hc=>absurd hc (by simp)⟩
   conv=>whnf
   have hmx:max (s.2.2:Int) ((readB l).session.toNat:Int)=((max s.2.2 (readB l).session.toNat:Nat):Int):=by omega
   dsimp only
   rw [hmx]
   cases hi:s.2.1 with
   | false =>
    conv=>whnf
    refine⟨fun hc=>?_,fun hc=>absurd hc (by simp)⟩
    conv=>whnf
    conv=>whnf
    refine⟨_,wrapId ⟨by omega,by omega⟩, ?_⟩
    refine⟨(i+1,(readB l,true,max s.2.2 (readB l).session.toNat)),⟨h, ?_⟩,by show D.length - (i+1) < D.length - i; omega, ?_⟩
    ·show survStep (atD D i) i (survF D i)=_
     rw [hS,hL]; simp [survStep,c2',hb,hi]
    conv=>whnf
    refine⟨rfl, ?_⟩
    conv=>whnf
    repeat' (first | exact (aRow_ren rfl) | exact trivial | exact rfl | refine And.intro ?_ ?_ | ((conv=>whnf); first | exact (aRow_ren rfl) | exact trivial | exact rfl | refine And.intro ?_ ?_ | omega))
   | true =>
    conv=>whnf
    refine⟨fun hc=>absurd hc (by simp),fun hc=>?_⟩
    conv=>whnf
    refine⟨fun hc=>?_,fun hc=>?_⟩
    ·have c3:s.1.gen.toNat < (readB l).gen.toNat:=by have:=of_decide_eq_true hc; omega
     conv=>whnf
     refine⟨_,wrapId ⟨by omega,by omega⟩, ?_⟩
     refine⟨(i+1,(readB l,true,max s.2.2 (readB l).session.toNat)),⟨h, ?_⟩,by show D.length - (i+1) < D.length - i; omega, ?_⟩
     ·show survStep (atD D i) i (survF D i)=_
      rw [hS,hL]; simp [survStep,c2',hb,hi,c3]
     conv=>whnf
     refine⟨rfl, ?_⟩
     conv=>whnf
     repeat' (first | exact (aRow_ren rfl) | exact trivial | exact rfl | refine And.intro ?_ ?_ | ((conv=>whnf); first | exact (aRow_ren rfl) | exact trivial | exact rfl | refine And.intro ?_ ?_ | omega))
    ·have c3:¬ s.1.gen.toNat < (readB l).gen.toNat:=by have:=of_decide_eq_false hc; omega
     conv=>whnf
     refine⟨_,wrapId ⟨by omega,by omega⟩, ?_⟩
     refine⟨(i+1,(s.1,true,max s.2.2 (readB l).session.toNat)),⟨h, ?_⟩,by show D.length - (i+1) < D.length - i; omega, ?_⟩
     ·show survStep (atD D i) i (survF D i)=_
      rw [hS,hL]; simp [survStep,c2',hb,hi,c3]
     conv=>whnf
     refine⟨rfl, ?_⟩
     conv=>whnf
     repeat' (first | exact (aRow_ren rfl) | exact trivial | exact rfl | refine And.intro ?_ ?_ | ((conv=>whnf); first | exact (aRow_ren rfl) | exact trivial | exact rfl | refine And.intro ?_ ?_ | omega))

end Go.Proofs

namespace Go.Proofs
open Go.Sx

def baseSct (b:Bs) (hk:b.link.length=8):Sct:=⟨baseSecF b,baseSecF_length b hk⟩

theorem lay_t (D:Dk) (hd:6≤D.length∧D.length≤65536) (b:Bs) (hk:b.link.length=8) (i:Nat) (hi:i=b.gen.toNat % 2) (h:i < D.length) (hn:D[i].2=none) :
  Triple Tryz.prog 68 [.agg (partC D.length), .agg (bsC b)] [(0,true,dskC 1 D.length),(1,true,dkR 2 D),(2,true,dkB D)] 3 (iv .i64 0)
   [(0,true,dskC 1 D.length),(1,true,dkR 3 (syncF (setD D i (baseSct b hk)))),(3,true,dkB (syncF (setD D i (baseSct b hk))))]:=by
 have hsl:(setD D i (baseSct b hk)).length=D.length:=setD_length _ _ _
 refine triple_of tB_ok Tryz.func68 rfl Tryz.call68 rfl ?_
 intro ρ w hH
 conv=>whnf
 refine⟨by decide,((b.gen.toNat % 2:Nat):Int),(Int.ofNat_tmod b.gen.toNat 2).symm, ?_⟩
 rw [← hi]
 conv=>whnf
 refine⟨(i:Int),wrapId ⟨by omega,by omega⟩, ?_⟩
 conv=>whnf
 refine⟨(i:Int),by rw [Int.zero_add]; exact wrapId ⟨by omega,by omega⟩, ?_⟩
 conv=>whnf
 refine call_step (baseSec_t b hk) rfl rfl ?_
 conv=>whnf
 refine⟨(by repeat' (first | exact (aRow_ren rfl) | exact trivial | exact rfl | refine And.intro ?_ ?_ | ((conv=>whnf); first | exact (aRow_ren rfl) | exact trivial | exact rfl | refine And.intro ?_ ?_ | omega))),(by repeat' (first | exact (aRow_ren rfl) | exact trivial | exact rfl | refine And.intro ?_ ?_ | ((conv=>whnf); first | exact (aRow_ren rfl) | exact trivial | exact rfl | refine And.intro ?_ ?_ | omega))), ?_⟩
 conv=>whnf
 refine call_step (write_t D i h hn (baseSct b hk)) rfl rfl ?_
 conv=>whnf
 refine⟨(by repeat' (first | exact (aRow_ren rfl) | exact trivial | exact rfl | refine And.intro ?_ ?_ | ((conv=>whnf); first | exact (aRow_ren rfl) | exact trivial | exact rfl | refine And.intro ?_ ?_ | omega))),(by repeat' (first | exact (aRow_ren rfl) | exact trivial | exact rfl | refine And.intro ?_ ?_ | ((conv=>whnf); first | exact (aRow_ren rfl) | exact trivial | exact rfl | refine And.intro ?_ ?_ | omega))), ?_⟩
 conv=>whnf
 rw [← aRow_ren rfl]
 refine⟨fun hc=>absurd hc (by simp),fun hc=>?_⟩
 conv=>whnf
 rw [← hsl]
 refine call_step (sync_t (setD D i (baseSct b hk)) (by omega)) rfl rfl ?_
 conv=>whnf
 refine⟨(by repeat' (first | exact (aRow_ren rfl) | exact trivial | exact rfl | refine And.intro ?_ ?_ | ((conv=>whnf); first | exact (aRow_ren rfl) | exact trivial | exact rfl | refine And.intro ?_ ?_ | omega))),(by repeat' (first | exact (aRow_ren rfl) | exact trivial | exact rfl | refine And.intro ?_ ?_ | ((conv=>whnf); first | exact (aRow_ren rfl) | exact trivial | exact rfl | refine And.intro ?_ ?_ | omega))), ?_⟩
 conv=>whnf
 rw [← aRow_ren rfl]
 repeat' (first | exact (aRow_ren rfl) | exact trivial | exact rfl | refine And.intro ?_ ?_ | ((conv=>whnf); first | exact (aRow_ren rfl) | exact trivial | exact rfl | refine And.intro ?_ ?_ | omega))

def link0:List UInt8:=(sumF 3 [intF 1,intF 1]).take 8

theorem link0_len:link0.length=8:=by
 unfold link0; rw [List.length_take,sumF_length]; rfl

def b0:Bs:=⟨1,1,0,1,link0⟩

def base0:Sct:=baseSct b0 link0_len

def fmtD (n:Nat):Dk:=syncF (setD (newDk n) 1 base0)

theorem fmtD_length (n:Nat):(fmtD n).length=n:=by
 unfold fmtD; rw [syncF_length,setD_length,newDk_length]

theorem short2 {a b:List UInt8} (ha:a.length≤64) (hb:b.length≤64):Short [a,b] :=
 ⟨by simp,fun p hp=>by simp at hp; rcases hp with rfl | rfl <;> omega⟩

def Sv0:Sv:=(⟨0,0,0,0,[]⟩,false,0)

theorem format_t (n:Nat) (hn:6≤n∧n≤65536) (hs:survF (newDk n) n=Sv0) :
  Triple Tryz.prog 30 [.c (.p 0 0 0 0),iv .i64 0,iv .i64 n] [(0,true,dskC 1 (newDk n).length),(1,true,dkR 2 (newDk n)),(2,true,dkB (newDk n))] 3 (iv .i64 0)
   [(0,true,dskC 1 (newDk n).length),(1,true,dkR 3 (fmtD n)),(3,true,dkB (fmtD n))]:=by
 have hl:=newDk_length n
 have hln:(n:Int)=((newDk n).length:Int):=by rw [hl]
 have hnd:6≤(newDk n).length∧(newDk n).length≤65536:=by omega
 have hs':survF (newDk n) (newDk n).length=Sv0:=by rw [hl]; exact hs
 have hg1:1 < (newDk n).length:=by omega
 have hnone:(newDk n)[1].2=none:=by simp [newDk]
 unfold fmtD
 generalize hD:newDk n=D at hl hln hnd hs' hg1 hnone ⊢
 rw [hln]
 refine triple_of tB_ok Tryz.func30 rfl Tryz.call30 rfl ?_
 intro ρ w hH
 conv=>whnf
 refine call_step (partOf_t D hnd) rfl rfl ?_
 conv=>whnf
 refine⟨(by repeat' (first | exact (aRow_ren rfl) | exact trivial | exact rfl | refine And.intro ?_ ?_ | ((conv=>whnf); first | exact (aRow_ren rfl) | exact trivial | exact rfl | refine And.intro ?_ ?_ | omega))),(by repeat' (first | exact (aRow_ren rfl) | exact trivial | exact rfl | refine And.intro ?_ ?_ | ((conv=>whnf); first | exact (aRow_ren rfl) | exact trivial | exact rfl | refine And.intro ?_ ?_ | omega))), ?_⟩
 conv=>whnf
 refine⟨fun hc=>absurd hc (by simp),fun hc=>?_⟩
 conv=>whnf
 refine call_step (survey_t D hnd Sv0 hs' (by decide)) rfl rfl ?_
 conv=>whnf
 refine⟨(by repeat' (first | exact (aRow_ren rfl) | exact trivial | exact rfl | refine And.intro ?_ ?_ | ((conv=>whnf); first | exact (aRow_ren rfl) | exact trivial | exact rfl | refine And.intro ?_ ?_ | omega))),(by repeat' (first | exact (aRow_ren rfl) | exact trivial | exact rfl | refine And.intro ?_ ?_ | ((conv=>whnf); first | exact (aRow_ren rfl) | exact trivial | exact rfl | refine And.intro ?_ ?_ | omega))), ?_⟩
 conv=>whnf
 refine⟨(1:Int),rfl, ?_⟩
 conv=>whnf
 refine⟨fun hc=>absurd hc (by decide),fun hc=>?_⟩
 conv=>whnf
 refine⟨fun hc=>absurd hc (by decide),fun hc=>?_⟩
 conv=>whnf
 refine⟨(1:Int),rfl, ?_⟩
 conv=>whnf
 refine call_step (int_t 1 (by decide)) rfl rfl ?_
 conv=>whnf
 refine⟨?_, ?_, ?_⟩
 iterate 2 · repeat'(first|exact trivial|exact rfl|refine And.intro ?_ ?_|((conv=>whnf);first|exact trivial|exact rfl|refine And.intro ?_ ?_|omega))
 conv=>whnf
 refine⟨(1:Int),rfl, ?_⟩
 conv=>whnf
 refine call_step (int_t 1 (by decide)) rfl rfl ?_
 conv=>whnf
 refine⟨?_, ?_, ?_⟩
 iterate 2 · repeat'(first|exact trivial|exact rfl|refine And.intro ?_ ?_|((conv=>whnf);first|exact trivial|exact rfl|refine And.intro ?_ ?_|omega))
 conv=>whnf
 refine bs_step tB_ok (aStr [intF 1,intF 1]) rfl rfl ?_
 conv=>whnf
 refine⟨⟨rfl,(by repeat'(first|exact trivial|exact rfl|refine And.intro ?_ ?_|((conv=>whnf);first|exact trivial|exact rfl|refine And.intro ?_ ?_|omega)))⟩, ?_⟩
 conv=>whnf
 have hil:=intF_length 1
 refine call_step (sum_t 3 (by decide) [intF 1,intF 1] (short2 (by omega) (by omega))) rfl rfl ?_
 conv=>whnf
 refine⟨?_, ?_, ?_⟩
 iterate 2 · repeat'(first|exact trivial|exact rfl|refine And.intro ?_ ?_|((conv=>whnf);first|exact trivial|exact rfl|refine And.intro ?_ ?_|omega))
 have hd:=sumF_length 3 [intF 1,intF 1]
 have hlk:(sumF 3 [intF 1,intF 1]).take 8=link0:=rfl
 generalize sumF 3 [intF 1,intF 1]=L at hd hlk ⊢
 conv=>whnf
 refine allocA_step tB_ok 16 rfl rfl rfl ?_
 conv=>whnf
 refine storeA_step (l':=L) tB_ok rfl rfl rfl rfl rfl (by simp) (by rw [hd]; simp) (by decide) ?_
 conv=>whnf
 refine slA_step (n:=16) (l:=L) tB_ok rfl rfl rfl rfl rfl rfl ⟨8,rfl,by decide,Nat.zero_le _, ?_⟩
 conv=>whnf
 refine b2s_step (fx:=some 16) (l:=L) tB_ok rfl rfl rfl rfl rfl rfl (by rw [subN_eq]; omega) ?_
 rw [show (L.drop 0).take (subN 8 0)=link0 from hlk]
 conv=>whnf
 have hlay:=lay_t D hnd b0 link0_len 1 (by decide) hg1 hnone
 refine call_step hlay rfl rfl ?_
 conv=>whnf
 refine⟨(by repeat' (first | exact (aRow_ren rfl) | exact trivial | exact rfl | refine And.intro ?_ ?_ | ((conv=>whnf); first | exact (aRow_ren rfl) | exact trivial | exact rfl | refine And.intro ?_ ?_ | omega))),(by repeat' (first | exact (aRow_ren rfl) | exact trivial | exact rfl | refine And.intro ?_ ?_ | ((conv=>whnf); first | exact (aRow_ren rfl) | exact trivial | exact rfl | refine And.intro ?_ ?_ | omega))), ?_⟩
 conv=>whnf
 rw [← aRow_ren rfl]
 repeat' (first | exact (aRow_ren rfl) | exact trivial | exact rfl | refine And.intro ?_ ?_ | ((conv=>whnf); first | exact (aRow_ren rfl) | exact trivial | exact rfl | refine And.intro ?_ ?_ | omega))

end Go.Proofs

namespace Go.Proofs
open Go.Sx

structure Kp where
 text:List UInt8
 fin:Nat
 link:List UInt8

def aKept (xs:List Kp):Arr:=⟨Kp,3,fun x=>[strC x.text, .v (.int .u64 x.fin),strC x.link],[],fun _=>rfl,(by intro x c hc k hk; simp at hc; rcases hc with rfl | rfl | rfl <;> cases hk),xs,none,none⟩

abbrev logC (n:Nat) (b:Bs) (sess kr m:Nat):List SC:=partC n ++ bsC b ++ [.v (.int .u64 sess), .s kr 0 m 3]

def byteF (l:List UInt8) (i:Nat):UInt8:=l.getD i 0

theorem byteF_at (l:List UInt8) (i:Nat) (h:i < l.length):l[i]=byteF l i:=by
 unfold byteF; rw [List.getD_eq_getElem?_getD,List.getElem?_eq_getElem h]; rfl

structure Fo where
 q:Nat
 link:List UInt8
 text:List UInt8
 ins:Bool
 recs:List Kp

def badF (s:List UInt8) (g:Fo):Bool :=
 !decide ((getF (subL s 0 8)).toNat=g.q) || (!decide (subL s 14 22=g.link) || (!sealedF 2 s 22 || (decide (90 < (byteF s 13).toNat) || (decide (3 < (byteF s 12).toNat) || (g.ins == decide (byteF s 12 &&& 1=1))))))

def nextF (s:List UInt8) (g:Fo):Fo :=
 ⟨g.q+1,subL s 22 30,(if g.ins then g.text else []) ++ subL s 30 (30+(byteF s 13).toNat),decide (byteF s 12 &&& 2=0),
  if byteF s 12 &&& 2=0 then g.recs else g.recs ++ [⟨(if g.ins then g.text else []) ++ subL s 30 (30+(byteF s 13).toNat),g.q+1,subL s 22 30⟩]⟩

def followF (D:Dk) (n:Nat):Nat → Fo → Fo
 | 0,g=>g
 | f+1,g=>if badF (atD D (2+g.q % (n - 2))) g then g else followF D n f (nextF (atD D (2+g.q % (n - 2))) g)

def openG (D:Dk) (b:Bs):List Kp:=(followF D D.length (D.length - 2) ⟨b.first.toNat,b.link,[],false,[]⟩).recs

structure OpenI (D:Dk) (f0:Nat) (R:List Kp) (k:Nat) (g:Fo):Prop where
 le:k≤D.length - 2
 q:g.q=f0+k
 text:g.text.length≤90 * k
 recs:g.recs.length≤k
 fin:(followF D D.length (D.length - 2 - k) g).recs=R

theorem u8_beq (x y:UInt8):((x.toNat:Int) == (y.toNat:Int))=decide (x=y):=by
 by_cases h:x=y
 ·subst h; simp
 ·have:¬ x.toNat=y.toNat:=fun e=>h (UInt8.toNat_inj.1 e)
  simp [h]; omega

theorem OpenI.next {D:Dk} {f0:Nat} {R:List Kp} {k:Nat} {g:Fo} {s:List UInt8} (h:k < D.length - 2) (hq:g.q=f0+k) (htx:g.text.length≤90 * k) (hrc:g.recs.length≤k) (h13:(byteF s 13).toNat≤90)
  (hfin:(followF D D.length (D.length - 2 - (k+1)) (nextF s g)).recs=R):OpenI D f0 R (k+1) (nextF s g):=by
 refine⟨h,by show g.q+1=_; omega, ?_, ?_,hfin⟩
 ·show ((if g.ins then g.text else []) ++ subL s 30 (30+(byteF s 13).toNat)).length≤_
  rw [List.length_append,subL,List.length_take]
  split <;> simp <;> omega
 ·show (if byteF s 12 &&& 2=0 then g.recs else g.recs ++ [_]).length≤_
  split
  ·omega
  ·rw [List.length_append]; simp; omega



theorem open_t (D:Dk) (hd:6≤D.length∧D.length≤65536) (S:Sv) (hs:survF D D.length=S) (hb:S.2.1=true) (hn:S.2.2 < 4294967295) (hf:S.1.first.toNat≤1000) :
  Triple Tryz.prog 31 [.c (.p 0 0 0 0),iv .i64 0,iv .i64 D.length] (dkH D) 3
   (.tup [.inl (.p 3 0 0 0), .inl (.v (.int .i64 0))]) [(3,true, .cells (logC D.length S.1 (S.2.2+1) 4 (openG D S.1).length)),(4,true, .arr (aKept (openG D S.1)))]:=by
 refine triple_of tB_ok Tryz.func31 rfl Tryz.call31 rfl ?_
 intro ρ w hH
 conv=>whnf
 refine call_step (partOf_t D hd) rfl rfl ?_
 conv=>whnf
 refine⟨(by repeat' (first | exact (aRow_ren rfl) | exact trivial | exact rfl | refine And.intro ?_ ?_ | ((conv=>whnf); first | exact (aRow_ren rfl) | exact trivial | exact rfl | refine And.intro ?_ ?_ | omega))),(by repeat' (first | exact (aRow_ren rfl) | exact trivial | exact rfl | refine And.intro ?_ ?_ | ((conv=>whnf); first | exact (aRow_ren rfl) | exact trivial | exact rfl | refine And.intro ?_ ?_ | omega))), ?_⟩
 conv=>whnf
 refine⟨fun hc=>absurd hc (by simp),fun hc=>?_⟩
 conv=>whnf
 refine call_step (survey_t D hd S hs (by omega)) rfl rfl ?_
 rw [hb]
 conv=>whnf
 refine⟨(by repeat' (first | exact (aRow_ren rfl) | exact trivial | exact rfl | refine And.intro ?_ ?_ | ((conv=>whnf); first | exact (aRow_ren rfl) | exact trivial | exact rfl | refine And.intro ?_ ?_ | omega))),(by repeat' (first | exact (aRow_ren rfl) | exact trivial | exact rfl | refine And.intro ?_ ?_ | ((conv=>whnf); first | exact (aRow_ren rfl) | exact trivial | exact rfl | refine And.intro ?_ ?_ | omega))), ?_⟩
 conv=>whnf
 refine⟨fun hc=>absurd hc (by simp),fun hc=>?_⟩
 conv=>whnf
 refine⟨fun hc=>?_,fun hc=>?_⟩
 ·exact absurd (of_decide_eq_true hc) (by omega)
 conv=>whnf
 refine⟨((D.length - 2:Nat):Int),by rw [show (D.length:Int) - 2=((D.length - 2:Nat):Int) from by omega]; exact wrapId ⟨by omega,by omega⟩, ?_⟩
 conv=>whnf
 refine loop_step tB_ok (G:=Nat × Fo) 1 [] (fun x=>[(54,iv .i64 x.1),(14,iv .u64 x.2.q),(15,strV x.2.link),(16,strV x.2.text),(17, .c (.v (.bool x.2.ins)))])
  (fun x=>[(5,true, .cells (logC D.length S.1 (S.2.2+1) 6 x.2.recs.length)),(6,true, .arr (aKept x.2.recs))]) (fun x=>OpenI D S.1.first.toNat (openG D S.1) x.1 x.2) (fun x=>D.length - 2 - x.1) ?_
 conv=>whnf
 refine⟨⟨(0,⟨S.1.first.toNat,S.1.link,[],false,[]⟩),⟨Nat.zero_le _,rfl,Nat.le_refl _,Nat.le_refl _,rfl⟩, ?_⟩, ?_⟩
 ·conv=>whnf
  repeat' (first | exact (aRow_ren rfl) | exact trivial | exact rfl | refine And.intro ?_ ?_ | ((conv=>whnf); first | exact (aRow_ren rfl) | exact trivial | exact rfl | refine And.intro ?_ ?_ | omega))
 generalize openG D S.1=R
 rintro ⟨k,g⟩ hI ρ1 t1 hρ1
 have hI:OpenI D S.1.first.toNat R k g:=hI
 obtain ⟨hk,hq,htx,hrc,hfin⟩:=hI
 conv=>whnf
 refine⟨fun hc=>?_,fun hc=>?_⟩
 rotate_left
 ·have hke:D.length - 2 - k=0:=by have:=of_decide_eq_false hc; omega
  have hR:R=g.recs:=by
   rw [← hfin]
   simp [hke,followF]
  rw [hR]
  conv=>whnf
  repeat' (first | exact (aRow_ren rfl) | exact trivial | exact rfl | refine And.intro ?_ ?_ | ((conv=>whnf); first | exact (aRow_ren rfl) | exact trivial | exact rfl | refine And.intro ?_ ?_ | omega))
 have h:k < D.length - 2:=by have:=of_decide_eq_true hc; omega
 conv=>whnf
 refine⟨fun hc=>?_,fun hc=>?_⟩
 ·have:=of_decide_eq_true hc
  dsimp only at this
  omega
 conv=>whnf
 refine call_step (slot_t D D.length hd g.q (by omega)) rfl rfl ?_
 conv=>whnf
 refine⟨(by repeat' (first | exact (aRow_ren rfl) | exact trivial | exact rfl | refine And.intro ?_ ?_ | ((conv=>whnf); first | exact (aRow_ren rfl) | exact trivial | exact rfl | refine And.intro ?_ ?_ | omega))),(by repeat' (first | exact (aRow_ren rfl) | exact trivial | exact rfl | refine And.intro ?_ ?_ | ((conv=>whnf); first | exact (aRow_ren rfl) | exact trivial | exact rfl | refine And.intro ?_ ?_ | omega))), ?_⟩
 conv=>whnf
 have hm:=Nat.mod_lt g.q (show 0 < D.length - 2 by omega)
 refine call_step (secAt_t D (2+g.q % (D.length - 2)) (by omega) hd.2) rfl rfl ?_
 have hfo:followF D D.length (D.length - 2 - k) g=if badF (atD D (2+g.q % (D.length - 2))) g then g else followF D D.length (D.length - 2 - (k+1)) (nextF (atD D (2+g.q % (D.length - 2))) g):=by
  rw [show D.length - 2 - k=(D.length - 2 - (k+1))+1 from by omega]; rfl
 rw [hfo] at hfin
 rw [atD_eq D (show 2+g.q % (D.length - 2) < D.length by omega)]
 have hsl:=atD_len D (2+g.q % (D.length - 2))
 generalize atD D (2+g.q % (D.length - 2))=s at hfin hsl ⊢
 conv=>whnf
 refine⟨(by repeat' (first | exact (aRow_ren rfl) | exact trivial | exact rfl | refine And.intro ?_ ?_ | ((conv=>whnf); first | exact (aRow_ren rfl) | exact trivial | exact rfl | refine And.intro ?_ ?_ | omega))),(by repeat' (first | exact (aRow_ren rfl) | exact trivial | exact rfl | refine And.intro ?_ ?_ | ((conv=>whnf); first | exact (aRow_ren rfl) | exact trivial | exact rfl | refine And.intro ?_ ?_ | omega))), ?_⟩
 conv=>whnf
 refine iaA_step tB_ok rfl rfl rfl rfl rfl rfl 12 rfl (by decide) ?_
 conv=>whnf
 refine⟨by show 12 < s.length; omega, ?_⟩
 have hb12:∀ hy,(aU8 (some 128) s).xs[12]'hy=byteF s 12:=fun hy=>byteF_at s 12 hy
 have hb13:∀ hy,(aU8 (some 128) s).xs[13]'hy=byteF s 13:=fun hy=>byteF_at s 13 hy
 rw [hb12]
 conv=>whnf
 refine iaA_step tB_ok rfl rfl rfl rfl rfl rfl 13 rfl (by decide) ?_
 conv=>whnf
 refine⟨by show 13 < s.length; omega, ?_⟩
 rw [hb13]
 have hz:=u8_lt (byteF s 13)
 conv=>whnf
 refine⟨((byteF s 13).toNat:Int),wrapId ⟨by omega,by omega⟩, ?_⟩
 conv=>whnf
 refine slA_step (n:=128) (l:=s) tB_ok rfl rfl rfl rfl rfl rfl ⟨8,rfl,by decide,Nat.zero_le _, ?_⟩
 conv=>whnf
 refine call_step (get_t (some 128) s 0 8 (by omega) (by decide)) rfl rfl ?_
 rw [show getF ((s.drop 0).take 8)=getF (subL s 0 8) from rfl]
 conv=>whnf
 refine⟨?_, ?_, ?_⟩
 iterate 2 · repeat'(first|exact trivial|exact rfl|refine And.intro ?_ ?_|((conv=>whnf);first|exact trivial|exact rfl|refine And.intro ?_ ?_|omega))
 conv=>whnf
 refine⟨fun hc=>?_,fun hc=>?_⟩
 ·have c1:¬ (getF (subL s 0 8)).toNat=g.q:=by
   intro e
   have hc:(((getF (subL s 0 8)).toNat:Int) != (g.q:Int))=true:=hc
   simp [e] at hc
  have hbad:badF s g=true:=by simp [badF,c1]
  conv=>whnf
  have hR:R=g.recs:=by
   rw [← hfin]
   rw [if_pos hbad]
  rw [hR]
  conv=>whnf
  repeat' (first | exact (aRow_ren rfl) | exact trivial | exact rfl | refine And.intro ?_ ?_ | ((conv=>whnf); first | exact (aRow_ren rfl) | exact trivial | exact rfl | refine And.intro ?_ ?_ | omega))
 have c1:(getF (subL s 0 8)).toNat=g.q:=by
  have hc:(((getF (subL s 0 8)).toNat:Int) != (g.q:Int))=false:=hc
  simp at hc; omega
 conv=>whnf
 refine slA_step (n:=128) (l:=s) tB_ok rfl rfl rfl rfl rfl rfl ⟨22,rfl,by decide,14,rfl,by decide, ?_⟩
 conv=>whnf
 refine b2s_step (fx:=some 128) (l:=s) tB_ok rfl rfl rfl rfl rfl rfl (by show 14+8≤_; omega) ?_
 rw [show (s.drop 14).take (subN 22 14)=subL s 14 22 from rfl]
 conv=>whnf
 refine sne_step (l:=subL s 14 22) (l':=g.link) rfl rfl rfl ?_
 conv=>whnf
 refine⟨fun hc=>?_,fun hc=>?_⟩
 ·have c2:¬ subL s 14 22=g.link:=by
   intro e
   have hc:(!decide (subL s 14 22=g.link))=true:=hc
   simp [e] at hc
  have hbad:badF s g=true:=by simp [badF,c2]
  conv=>whnf
  have hR:R=g.recs:=by
   rw [← hfin]
   rw [if_pos hbad]
  rw [hR]
  conv=>whnf
  repeat' (first | exact (aRow_ren rfl) | exact trivial | exact rfl | refine And.intro ?_ ?_ | ((conv=>whnf); first | exact (aRow_ren rfl) | exact trivial | exact rfl | refine And.intro ?_ ?_ | omega))
 have c2:subL s 14 22=g.link:=by
  have hc:(!decide (subL s 14 22=g.link))=false:=hc
  simpa using hc
 conv=>whnf
 refine call_step (sealed_t 2 (by decide) s hsl 22 (by decide)) rfl rfl ?_
 conv=>whnf
 refine⟨?_, ?_, ?_⟩
 iterate 2 · repeat'(first|exact trivial|exact rfl|refine And.intro ?_ ?_|((conv=>whnf);first|exact trivial|exact rfl|refine And.intro ?_ ?_|omega))
 cases c3:sealedF 2 s 22 with
 | false =>
  conv=>whnf
  refine⟨fun hc=>?_,fun hc=>absurd hc (by simp)⟩
  have hbad:badF s g=true:=by simp [badF,c3]
  conv=>whnf
  have hR:R=g.recs:=by
   rw [← hfin]
   rw [if_pos hbad]
  rw [hR]
  conv=>whnf
  repeat' (first | exact (aRow_ren rfl) | exact trivial | exact rfl | refine And.intro ?_ ?_ | ((conv=>whnf); first | exact (aRow_ren rfl) | exact trivial | exact rfl | refine And.intro ?_ ?_ | omega))
 | true =>
  conv=>whnf
  refine⟨fun hc=>absurd hc (by simp),fun hc=>?_⟩
  conv=>whnf
  refine⟨fun hc=>?_,fun hc=>?_⟩
  ·have c4:90 < (byteF s 13).toNat:=by have:=of_decide_eq_true hc; omega
   have hbad:badF s g=true:=by simp [badF,c4]
   conv=>whnf
   have hR:R=g.recs:=by
    rw [← hfin]
    rw [if_pos hbad]
   rw [hR]
   conv=>whnf
   repeat' (first | exact (aRow_ren rfl) | exact trivial | exact rfl | refine And.intro ?_ ?_ | ((conv=>whnf); first | exact (aRow_ren rfl) | exact trivial | exact rfl | refine And.intro ?_ ?_ | omega))
  have c4:¬ 90 < (byteF s 13).toNat:=by have:=of_decide_eq_false hc; omega
  conv=>whnf
  refine⟨fun hc=>?_,fun hc=>?_⟩
  ·have c5:3 < (byteF s 12).toNat:=by have:=of_decide_eq_true hc; omega
   have hbad:badF s g=true:=by simp [badF,c5]
   conv=>whnf
   have hR:R=g.recs:=by
    rw [← hfin]
    rw [if_pos hbad]
   rw [hR]
   conv=>whnf
   repeat' (first | exact (aRow_ren rfl) | exact trivial | exact rfl | refine And.intro ?_ ?_ | ((conv=>whnf); first | exact (aRow_ren rfl) | exact trivial | exact rfl | refine And.intro ?_ ?_ | omega))
  have c5:¬ 3 < (byteF s 12).toNat:=by have:=of_decide_eq_false hc; omega
  conv=>whnf
  refine⟨_,u8_and (byteF s 12) 1, ?_⟩
  conv=>whnf
  refine⟨fun hc=>?_,fun hc=>?_⟩
  ·have c6:(g.ins == decide (byteF s 12 &&& 1=1))=true:=by rw [← u8_beq]; exact hc
   have hbad:badF s g=true:=by simp only [badF,c6,Bool.or_true]
   conv=>whnf
   have hR:R=g.recs:=by
    rw [← hfin]
    rw [if_pos hbad]
   rw [hR]
   conv=>whnf
   repeat' (first | exact (aRow_ren rfl) | exact trivial | exact rfl | refine And.intro ?_ ?_ | ((conv=>whnf); first | exact (aRow_ren rfl) | exact trivial | exact rfl | refine And.intro ?_ ?_ | omega))
  have c6:(g.ins == decide (byteF s 12 &&& 1=1))=false:=by rw [← u8_beq]; exact hc
  have hbad:badF s g=false:=by simp only [badF,c6,c3,c1,c2,decide_eq_false c4,decide_eq_false c5]; rfl
  rw [hbad] at hfin
  have hfin:(followF D D.length (D.length - 2 - (k+1)) (nextF s g)).recs=R:=hfin
  have hnx:=OpenI.next h hq htx hrc (by omega) hfin
  cases hin:g.ins with
  | false =>
   conv=>whnf
   refine⟨fun hc=>?_,fun hc=>absurd hc (by simp)⟩
   conv=>whnf
   refine⟨(30:Int)+((byteF s 13).toNat:Int),wrapId ⟨by omega,by omega⟩, ?_⟩
   conv=>whnf
   refine slA_step (n:=128) (l:=s) tB_ok rfl rfl rfl rfl rfl rfl ⟨30+(byteF s 13).toNat,by omega,by omega,30,rfl,by omega, ?_⟩
   conv=>whnf
   refine b2s_step (fx:=some 128) (l:=s) tB_ok rfl rfl rfl rfl rfl rfl (by rw [subN_eq]; show 30+(30+(byteF s 13).toNat - 30)≤_; omega) ?_
   rw [show (s.drop 30).take (subN (30+(byteF s 13).toNat) 30)=subL s 30 (30+(byteF s 13).toNat) from by rw [subN_eq]; rfl]
   conv=>whnf
   have hsub:(subL s 30 (30+(byteF s 13).toNat)).length≤90:=by rw [subL,List.length_take]; omega
   refine cat_step (l:=([]:List UInt8)) (l':=subL s 30 (30+(byteF s 13).toNat)) rfl rfl rfl (by exact Nat.le_trans (Nat.le_of_eq (Nat.zero_add _)) (by omega)) ?_
   conv=>whnf
   refine⟨((g.q+1:Nat):Int),wrap_u64_nat (g.q+1) (by omega), ?_⟩
   conv=>whnf
   refine slA_step (n:=128) (l:=s) tB_ok rfl rfl rfl rfl rfl rfl ⟨30,rfl,by decide,22,rfl,by decide, ?_⟩
   conv=>whnf
   refine b2s_step (fx:=some 128) (l:=s) tB_ok rfl rfl rfl rfl rfl rfl (by show 22+8≤_; omega) ?_
   rw [show (s.drop 22).take (subN 30 22)=subL s 22 30 from rfl]
   conv=>whnf
   refine⟨_,u8_and (byteF s 12) 2, ?_⟩
   conv=>whnf
   by_cases h2:byteF s 12 &&& 2=0
   ·have hv:(((byteF s 12 &&& 2).toNat:Int) == 0)=true:=(u8_beq _ 0).trans (decide_eq_true h2)
    have e:nextF s g=⟨g.q+1,subL s 22 30,([]:List UInt8) ++ subL s 30 (30+(byteF s 13).toNat),true,g.recs⟩:=by simp [nextF,hin,h2]
    rw [e] at hnx
    refine⟨fun hc=>absurd (show (!(((byteF s 12 &&& 2).toNat:Int) == 0))=true from hc) (by rw [hv]; decide),fun hc=>?_⟩
    conv=>whnf
    refine⟨_,wrapId ⟨by omega,by omega⟩, ?_⟩
    refine⟨(k+1,_),hnx,by show D.length - 2 - (k+1) < D.length - 2 - k; omega, ?_⟩
    conv=>whnf
    refine⟨rfl, ?_⟩
    conv=>whnf
    repeat' (first | exact (congrArg (fun b=>(b:Bool)) hv) | exact trivial | exact rfl | refine And.intro ?_ ?_ | ((conv=>whnf); first | exact (congrArg (fun b=>(b:Bool)) hv) | exact trivial | exact rfl | refine And.intro ?_ ?_ | omega))
   ·have hv:(((byteF s 12 &&& 2).toNat:Int) == 0)=false:=(u8_beq _ 0).trans (decide_eq_false h2)
    have e:nextF s g=⟨g.q+1,subL s 22 30,([]:List UInt8) ++ subL s 30 (30+(byteF s 13).toNat),false,g.recs ++ [⟨([]:List UInt8) ++ subL s 30 (30+(byteF s 13).toNat),g.q+1,subL s 22 30⟩]⟩:=by simp [nextF,hin,h2]
    rw [e] at hnx
    refine⟨fun hc=>?_,fun hc=>absurd (show (!(((byteF s 12 &&& 2).toNat:Int) == 0))=false from hc) (by rw [hv]; decide)⟩
    conv=>whnf
    refine bs_step tB_ok (aKept [⟨([]:List UInt8) ++ subL s 30 (30+(byteF s 13).toNat),g.q+1,subL s 22 30⟩]) rfl rfl ?_
    conv=>whnf
    refine⟨⟨rfl,(by repeat'(first|exact trivial|exact rfl|refine And.intro ?_ ?_|((conv=>whnf);first|exact trivial|exact rfl|refine And.intro ?_ ?_|omega)))⟩, ?_⟩
    generalize hr:(⟨([]:List UInt8) ++ subL s 30 (30+(byteF s 13).toNat),g.q+1,subL s 22 30⟩:Kp)=r at hnx ⊢
    conv=>whnf
    refine appR_step tB_ok (aKept g.recs) [r] (g.recs ++ [r]) (fun _=>rfl) rfl rfl rfl rfl ?_
    conv=>whnf
    refine⟨⟨rfl,rfl,Nat.le_refl _,Nat.le_refl _,by show (g.recs.length+1) * 41≤140737488355328; omega,app1⟩, ?_⟩
    conv=>whnf
    have e3:(g.recs ++ [r]).length=g.recs.length+1:=by rw [List.length_append]; rfl
    refine⟨_,wrapId ⟨by omega,by omega⟩, ?_⟩
    refine⟨(k+1,_),hnx,by show D.length - 2 - (k+1) < D.length - 2 - k; omega, ?_⟩
    dsimp only
    rw [e3]
    conv=>whnf
    refine⟨rfl, ?_⟩
    conv=>whnf
    repeat' (first | exact hv | exact e3 | exact trivial | exact rfl | refine And.intro ?_ ?_ | ((conv=>whnf); first | exact hv | exact e3 | exact trivial | exact rfl | refine And.intro ?_ ?_ | omega))
  | true =>
   conv=>whnf
   refine⟨fun hc=>absurd hc (by simp),fun hc=>?_⟩
   conv=>whnf
   refine⟨(30:Int)+((byteF s 13).toNat:Int),wrapId ⟨by omega,by omega⟩, ?_⟩
   conv=>whnf
   refine slA_step (n:=128) (l:=s) tB_ok rfl rfl rfl rfl rfl rfl ⟨30+(byteF s 13).toNat,by omega,by omega,30,rfl,by omega, ?_⟩
   conv=>whnf
   refine b2s_step (fx:=some 128) (l:=s) tB_ok rfl rfl rfl rfl rfl rfl (by rw [subN_eq]; show 30+(30+(byteF s 13).toNat - 30)≤_; omega) ?_
   rw [show (s.drop 30).take (subN (30+(byteF s 13).toNat) 30)=subL s 30 (30+(byteF s 13).toNat) from by rw [subN_eq]; rfl]
   conv=>whnf
   have hsub:(subL s 30 (30+(byteF s 13).toNat)).length≤90:=by rw [subL,List.length_take]; omega
   refine cat_step (l:=g.text) (l':=subL s 30 (30+(byteF s 13).toNat)) rfl rfl rfl (by omega) ?_
   conv=>whnf
   refine⟨((g.q+1:Nat):Int),wrap_u64_nat (g.q+1) (by omega), ?_⟩
   conv=>whnf
   refine slA_step (n:=128) (l:=s) tB_ok rfl rfl rfl rfl rfl rfl ⟨30,rfl,by decide,22,rfl,by decide, ?_⟩
   conv=>whnf
   refine b2s_step (fx:=some 128) (l:=s) tB_ok rfl rfl rfl rfl rfl rfl (by show 22+8≤_; omega) ?_
   rw [show (s.drop 22).take (subN 30 22)=subL s 22 30 from rfl]
   conv=>whnf
   refine⟨_,u8_and (byteF s 12) 2, ?_⟩
   conv=>whnf
   by_cases h2:byteF s 12 &&& 2=0
   ·have hv:(((byteF s 12 &&& 2).toNat:Int) == 0)=true:=(u8_beq _ 0).trans (decide_eq_true h2)
    have e:nextF s g=⟨g.q+1,subL s 22 30,g.text ++ subL s 30 (30+(byteF s 13).toNat),true,g.recs⟩:=by simp [nextF,hin,h2]
    rw [e] at hnx
    refine⟨fun hc=>absurd (show (!(((byteF s 12 &&& 2).toNat:Int) == 0))=true from hc) (by rw [hv]; decide),fun hc=>?_⟩
    conv=>whnf
    refine⟨_,wrapId ⟨by omega,by omega⟩, ?_⟩
    refine⟨(k+1,_),hnx,by show D.length - 2 - (k+1) < D.length - 2 - k; omega, ?_⟩
    conv=>whnf
    refine⟨rfl, ?_⟩
    conv=>whnf
    repeat' (first | exact (congrArg (fun b=>(b:Bool)) hv) | exact trivial | exact rfl | refine And.intro ?_ ?_ | ((conv=>whnf); first | exact (congrArg (fun b=>(b:Bool)) hv) | exact trivial | exact rfl | refine And.intro ?_ ?_ | omega))
   ·have hv:(((byteF s 12 &&& 2).toNat:Int) == 0)=false:=(u8_beq _ 0).trans (decide_eq_false h2)
    have e:nextF s g=⟨g.q+1,subL s 22 30,g.text ++ subL s 30 (30+(byteF s 13).toNat),false,g.recs ++ [⟨g.text ++ subL s 30 (30+(byteF s 13).toNat),g.q+1,subL s 22 30⟩]⟩:=by simp [nextF,hin,h2]
    rw [e] at hnx
    refine⟨fun hc=>?_,fun hc=>absurd (show (!(((byteF s 12 &&& 2).toNat:Int) == 0))=false from hc) (by rw [hv]; decide)⟩
    conv=>whnf
    refine bs_step tB_ok (aKept [⟨g.text ++ subL s 30 (30+(byteF s 13).toNat),g.q+1,subL s 22 30⟩]) rfl rfl ?_
    conv=>whnf
    refine⟨⟨rfl,(by repeat'(first|exact trivial|exact rfl|refine And.intro ?_ ?_|((conv=>whnf);first|exact trivial|exact rfl|refine And.intro ?_ ?_|omega)))⟩, ?_⟩
    generalize hr:(⟨g.text ++ subL s 30 (30+(byteF s 13).toNat),g.q+1,subL s 22 30⟩:Kp)=r at hnx ⊢
    conv=>whnf
    refine appR_step tB_ok (aKept g.recs) [r] (g.recs ++ [r]) (fun _=>rfl) rfl rfl rfl rfl ?_
    conv=>whnf
    refine⟨⟨rfl,rfl,Nat.le_refl _,Nat.le_refl _,by show (g.recs.length+1) * 41≤140737488355328; omega,app1⟩, ?_⟩
    conv=>whnf
    have e3:(g.recs ++ [r]).length=g.recs.length+1:=by rw [List.length_append]; rfl
    refine⟨_,wrapId ⟨by omega,by omega⟩, ?_⟩
    refine⟨(k+1,_),hnx,by show D.length - 2 - (k+1) < D.length - 2 - k; omega, ?_⟩
    dsimp only
    rw [e3]
    conv=>whnf
    refine⟨rfl, ?_⟩
    conv=>whnf
    repeat' (first | exact hv | exact e3 | exact trivial | exact rfl | refine And.intro ?_ ?_ | ((conv=>whnf); first | exact hv | exact e3 | exact trivial | exact rfl | refine And.intro ?_ ?_ | omega))

end Go.Proofs

namespace Go.Proofs
open Go.Sx

abbrev lgH (own:Bool) (n:Nat) (D:Dk) (b:Bs) (sess:Nat) (ks:List Kp):Heap :=
 [(3,own, .cells (logC n b sess 4 ks.length)),(0,own,dskC 1 n),(1,own,dkR 2 D),(2,own,dkB D),(4,own, .arr (aKept ks))]

def endOf (b:Bs) (ks:List Kp):Nat × List UInt8:=match ks.getLast? with
 | none=>(b.first.toNat,b.link)
 | some k=>(k.fin,k.link)

theorem records_lt (ks:List Kp) {i:Nat} (h:i < ks.length):(ks.take (i+1)).map (·.text)=(ks.take i).map (·.text) ++ [ks[i].text]:=by
 rw [take_snoc h,List.map_append]; rfl

theorem kept_at {ks:List Kp} {i:Nat} (h:i < ks.length):∀ hz,(aKept ks).xs[addN 0 i]'hz=ks[i]:=fun hz=>by
 have e:addN 0 i=i:=by rw [addN_eq]; omega
 show ks[addN 0 i]'hz=ks[i]
 congr 1

theorem logRecs_t (D:Dk) (b:Bs) (sess:Nat) (ks:List Kp) (hk:ks.length≤100000):Triple Tryz.prog 39 [.c (.p 3 0 0 0)] (lgH false D.length D b sess ks) 5 (.c (.s 5 0 ks.length 1)) [(5,true, .arr (aStr (ks.map (·.text))))]:=by
 refine triple_of tB_ok Tryz.func39 rfl Tryz.call39 rfl ?_
 intro ρ w hH
 conv=>whnf
 refine loop_step tB_ok (G:=Nat) 1 [] (fun i=>[(11,iv .i64 i),(3, .c (.s 5 0 i 1))]) (fun i=>[(5,true, .arr (aStr ((ks.take i).map (·.text))))]) (fun i=>i≤ks.length) (fun i=>ks.length - i) ?_
 conv=>whnf
 refine⟨⟨0,Nat.zero_le _, ?_⟩, ?_⟩
 ·conv=>whnf
  repeat' (first | exact (aRow_ren rfl) | exact trivial | exact rfl | refine And.intro ?_ ?_ | ((conv=>whnf); first | exact (aRow_ren rfl) | exact trivial | exact rfl | refine And.intro ?_ ?_ | omega))
 intro i hi ρ1 t1 hρ1
 have hi:i≤ks.length:=hi
 conv=>whnf
 refine⟨fun hc=>?_,fun hc=>?_⟩
 ·have h:i < ks.length:=by have:=of_decide_eq_true hc; omega
  have hst:=records_lt ks h
  have hlen:((ks.take i).map (·.text)).length=i:=by rw [List.length_map,List.length_take]; omega
  generalize (ks.take i).map (·.text)=pr at hst hlen ⊢
  conv=>whnf
  refine⟨i,rfl,h,h, ?_⟩
  have hx:∀ hz,(aKept ks).xs[addN 0 i]'hz=ks[i]:=kept_at h
  conv=>whnf
  refine bs_step tB_ok (aStr [ks[i].text]) rfl rfl ?_
  conv=>whnf
  refine⟨⟨rfl,(by repeat'(first|exact trivial|exact rfl|refine And.intro ?_ ?_|((conv=>whnf);first|exact trivial|exact rfl|refine And.intro ?_ ?_|omega)))⟩, ?_⟩
  conv=>whnf
  refine appR_step tB_ok (aStr pr) [ks[i].text] (pr ++ [ks[i].text]) (fun _=>rfl) rfl rfl rfl rfl ?_
  conv=>whnf
  have e:pr.take i ++ (([ks[i].text]:List (List UInt8)).drop 0).take 1=pr ++ [ks[i].text]:=by
   rw [List.take_of_length_le (by omega)]; rfl
  refine⟨⟨rfl,rfl,(by show i≤pr.length; omega),Nat.le_refl _,by show (i+1) * 17≤140737488355328; omega,e⟩, ?_⟩
  conv=>whnf
  refine⟨_,wrapId ⟨by omega,by omega⟩, ?_⟩
  refine⟨i+1,h,by show ks.length - (i+1) < ks.length - i; omega, ?_⟩
  dsimp only
  rw [hst]
  conv=>whnf
  refine⟨rfl, ?_⟩
  have elen:(pr ++ [ks[i].text]).length=i+1:=by rw [List.length_append,hlen]; rfl
  conv=>whnf
  repeat' (first | exact elen | exact trivial | exact rfl | refine And.intro ?_ ?_ | ((conv=>whnf); first | exact elen | exact trivial | exact rfl | refine And.intro ?_ ?_ | omega))
 ·have hie:i=ks.length:=by have:=of_decide_eq_false hc; omega
  subst hie
  rw [List.take_length]
  conv=>whnf
  repeat' (first | exact (aRow_ren rfl) | exact trivial | exact rfl | refine And.intro ?_ ?_ | ((conv=>whnf); first | exact (aRow_ren rfl) | exact trivial | exact rfl | refine And.intro ?_ ?_ | omega))

theorem end_t (D:Dk) (b:Bs) (sess:Nat) (ks:List Kp) (hk:ks.length≤100000):Triple Tryz.prog 78 [.c (.p 3 0 0 0)] (lgH false D.length D b sess ks) 5 (.tup [.inl (.v (.int .u64 (endOf b ks).1)), .inl (strC (endOf b ks).2)]) []:=by
 rcases List.eq_nil_or_concat ks with h0 | ⟨ks',k,h0⟩
 ·subst h0
  refine triple_of tB_ok Tryz.func78 rfl Tryz.call78 rfl ?_
  intro ρ w hH
  conv=>whnf
  refine⟨fun hc=>absurd hc (by simp),fun hc=>?_⟩
  conv=>whnf
  repeat' (first | exact (aRow_ren rfl) | exact trivial | exact rfl | refine And.intro ?_ ?_ | ((conv=>whnf); first | exact (aRow_ren rfl) | exact trivial | exact rfl | refine And.intro ?_ ?_ | omega))
 ·have hks:ks=ks' ++ [k]:=by rw [h0]; simp
  have hlen:ks.length=ks'.length+1:=by rw [hks]; simp
  have hend:endOf b ks=(k.fin,k.link):=by rw [hks]; simp [endOf]
  have hget:∀ h,ks[ks'.length]'h=k:=fun h=>by subst hks; simp
  rw [hend]
  refine triple_of tB_ok Tryz.func78 rfl Tryz.call78 rfl ?_
  intro ρ w hH
  conv=>whnf
  have hx:∀ hz,(aKept ks).xs[addN 0 ks'.length]'hz=k:=fun hz=>(kept_at (show ks'.length < ks.length by omega) hz).trans (hget _)
  refine⟨fun hc=>?_,fun hc=>absurd (of_decide_eq_false hc) (by omega)⟩
  conv=>whnf
  refine⟨(ks'.length:Int),by rw [show (ks.length:Int) - 1=(ks'.length:Int) from by omega]; exact wrapId ⟨by omega,by omega⟩, ?_⟩
  conv=>whnf
  refine⟨ks'.length,rfl,by omega, ?_⟩
  conv=>whnf
  refine⟨by show addN 0 ks'.length < ks.length; rw [addN_eq]; omega, ?_⟩
  rw [hx]
  conv=>whnf
  refine⟨(ks'.length:Int),by rw [show (ks.length:Int) - 1=(ks'.length:Int) from by omega]; exact wrapId ⟨by omega,by omega⟩, ?_⟩
  conv=>whnf
  refine⟨ks'.length,rfl,by omega, ?_⟩
  conv=>whnf
  refine⟨by show addN 0 ks'.length < ks.length; rw [addN_eq]; omega, ?_⟩
  rw [hx]
  conv=>whnf
  repeat' (first | exact (aRow_ren rfl) | exact trivial | exact rfl | refine And.intro ?_ ?_ | ((conv=>whnf); first | exact (aRow_ren rfl) | exact trivial | exact rfl | refine And.intro ?_ ?_ | omega))

theorem room_t (D:Dk) (hd:D.length≤65536) (b:Bs) (sess:Nat) (ks:List Kp) (hk:ks.length≤100000) (q:Nat) (hq:(endOf b ks).1=q) (hb:b.first.toNat≤q) (hr:q - b.first.toNat≤65536) :
  Triple Tryz.prog 79 [.c (.p 3 0 0 0)] (lgH false D.length D b sess ks) 5 (iv .i64 ((D.length:Int) - 2 - ((q - b.first.toNat:Nat):Int))) []:=by
 have hend:=end_t D b sess ks hk
 rw [hq] at hend
 have hu:=b.first.toNat_lt
 refine triple_of tB_ok Tryz.func79 rfl Tryz.call79 rfl ?_
 intro ρ w hH
 conv=>whnf
 refine call_step hend rfl rfl ?_
 conv=>whnf
 refine⟨(by repeat' (first | exact (aRow_ren rfl) | exact trivial | exact rfl | refine And.intro ?_ ?_ | ((conv=>whnf); first | exact (aRow_ren rfl) | exact trivial | exact rfl | refine And.intro ?_ ?_ | omega))),(by repeat' (first | exact (aRow_ren rfl) | exact trivial | exact rfl | refine And.intro ?_ ?_ | ((conv=>whnf); first | exact (aRow_ren rfl) | exact trivial | exact rfl | refine And.intro ?_ ?_ | omega))), ?_⟩
 conv=>whnf
 refine⟨_,wrapId ⟨by omega,by omega⟩, ?_⟩
 refine⟨((q - b.first.toNat:Nat):Int),by rw [show (q:Int) - (b.first.toNat:Int)=((q - b.first.toNat:Nat):Int) from by omega]; exact wrap_u64_nat _ (by omega), ?_⟩
 conv=>whnf
 refine⟨((q - b.first.toNat:Nat):Int),wrapId ⟨by omega,by omega⟩, ?_⟩
 conv=>whnf
 refine⟨(D.length:Int) - 2 - ((q - b.first.toNat:Nat):Int),wrapId ⟨by omega,by omega⟩, ?_⟩
 conv=>whnf
 repeat' (first | exact (aRow_ren rfl) | exact trivial | exact rfl | refine And.intro ?_ ?_ | ((conv=>whnf); first | exact (aRow_ren rfl) | exact trivial | exact rfl | refine And.intro ?_ ?_ | omega))

theorem logCommit_t (D:Dk) (hd:D.length≤65536) (b:Bs) (sess:Nat) (ks:List Kp) :
  Triple Tryz.prog 36 [.c (.p 3 0 0 0)] (lgH true D.length D b sess ks) 5 (iv .i64 0) (lgH true D.length (syncF D) b sess ks):=by
 refine triple_of tB_ok Tryz.func36 rfl Tryz.call36 rfl ?_
 intro ρ w hH
 conv=>whnf
 refine call_step (sync_t D (by omega)) rfl rfl ?_
 conv=>whnf
 refine⟨(by repeat' (first | exact (aRow_ren rfl) | exact trivial | exact rfl | refine And.intro ?_ ?_ | ((conv=>whnf); first | exact (aRow_ren rfl) | exact trivial | exact rfl | refine And.intro ?_ ?_ | omega))),(by repeat' (first | exact (aRow_ren rfl) | exact trivial | exact rfl | refine And.intro ?_ ?_ | ((conv=>whnf); first | exact (aRow_ren rfl) | exact trivial | exact rfl | refine And.intro ?_ ?_ | omega))), ?_⟩
 conv=>whnf
 rw [← aRow_ren rfl]
 repeat' (first | exact (aRow_ren rfl) | exact trivial | exact rfl | refine And.intro ?_ ?_ | ((conv=>whnf); first | exact (aRow_ren rfl) | exact trivial | exact rfl | refine And.intro ?_ ?_ | omega))

end Go.Proofs

