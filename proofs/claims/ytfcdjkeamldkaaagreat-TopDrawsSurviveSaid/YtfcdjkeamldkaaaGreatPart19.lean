/-
  A part of the proof that a law answers true: lemmas of a symbolic walk, plain functions, or contracts of the functions walked (Q3, Q4, Q5, Sx69, Q6). Conditions: none.
-/
import Derived.Test.YtfcdjkeamldkaaaGreatPart18
import Derived.Test.YtfcdjkeamldkaaaGreatPart16
import Derived.Test.YtfcdjkeamldkaaaGreatPart14
set_option maxRecDepth 100000
set_option linter.unusedVariables false
set_option linter.unusedSimpArgs false
namespace Go.Proofs
open Go.Sx

theorem shl8_add (x:UInt64) (b:UInt8):IntKind.u64.wrap (((x <<< UInt64.ofNat 8).toNat:Int)+(b.toUInt64.toNat:Int))=((x <<< UInt64.ofNat 8 ||| b.toUInt64).toNat:Int):=by
 have h1:(x <<< UInt64.ofNat 8).toNat=2 ^ 8 * (x.toNat % 2 ^ 56):=by
  rw [UInt64.toNat_shiftLeft]
  have e:(UInt64.ofNat 8).toNat % 64=8:=by decide
  rw [e,Nat.shiftLeft_eq]; omega
 have h2:b.toUInt64.toNat=b.toNat:=UInt8.toNat_toUInt64 b
 have h3:=u8_lt b
 have h4:(x <<< UInt64.ofNat 8 ||| b.toUInt64).toNat=2 ^ 8 * (x.toNat % 2 ^ 56)+b.toNat:=by
  rw [UInt64.toNat_or,h1,h2,← Nat.two_pow_add_eq_or_of_lt (by omega)]
 rw [wrap_u64,h4,h1,h2]; omega

theorem xbytes_t (l:List UInt8) (hl:l.length=128) (st n:Nat) (h:st+n≤128):Triple Tryz.prog 129 [arrS l,iv .i64 st,iv .i64 n] [] 0 (uv (getF (subL l st (st+n)))) []:=by
 rw [show subL l st (st+n)=(l.drop st).take n from by unfold subL; rw [Nat.add_sub_cancel_left]]
 refine triple_of tB_ok Tryz.func129 rfl Tryz.call129 rfl ?_
 intro ρ w hH
 conv=>whnf
 refine boxA_step (l:=l) rfl rfl ?_
 rw [hl]
 conv=>whnf
 refine loop_step tB_ok (G:=Nat) 0 [] (fun i=>[(7,uv (getF ((l.drop st).take i))),(8,iv .i64 ((st+i:Nat):Int))]) (fun _=>[]) (fun i=>i≤n) (fun i=>n - i) ?_
 conv=>whnf
 refine⟨⟨0,Nat.zero_le _, ?_⟩, ?_⟩
 ·conv=>whnf
  repeat'(first|exact trivial|exact rfl|refine And.intro ?_ ?_|((conv=>whnf);first|exact trivial|exact rfl|refine And.intro ?_ ?_|omega))
 rintro i hi ρ1 t1 hρ1
 have hi:i≤n:=hi
 conv=>whnf
 refine⟨((st+n:Nat):Int),by rw [wrapId ⟨by omega,by omega⟩]; push_cast; rfl, ?_⟩
 conv=>whnf
 refine⟨fun hc=>?_,fun hc=>?_⟩
 ·have hlt:i < n:=by have:=of_decide_eq_true hc; omega
  have key:getF ((l.drop st).take i) <<< UInt64.ofNat 8 ||| (l[st+i]'(by omega)).toUInt64=getF ((l.drop st).take (i+1)):=by
   have h1:i < (l.drop st).length:=by rw [List.length_drop]; omega
   rw [take_snoc h1,getF_snoc,List.getElem_drop]
  generalize getF ((l.drop st).take i)=v at key ⊢
  conv=>whnf
  refine⟨by decide,_,u64_shl _ 8 (by omega), ?_⟩
  conv=>whnf
  refine iaA_step tB_ok rfl rfl rfl rfl rfl rfl (st+i) rfl (by omega) ?_
  conv=>whnf
  refine⟨by show st+i < l.length; omega, ?_⟩
  conv=>whnf
  refine⟨_,u8_to64 _, ?_⟩
  conv=>whnf
  refine⟨_,shl8_add v (l[st+i]'(by omega)), ?_⟩
  rw [key]
  conv=>whnf
  refine⟨((st+(i+1):Nat):Int),by rw [wrapId ⟨by omega,by omega⟩]; push_cast; omega, ?_⟩
  refine⟨i+1,hlt,by show n - (i+1) < n - i; omega, ?_⟩
  conv=>whnf
  refine⟨rfl, ?_⟩
  conv=>whnf
  repeat'(first|exact trivial|exact rfl|refine And.intro ?_ ?_|((conv=>whnf);first|exact trivial|exact rfl|refine And.intro ?_ ?_|omega))
 ·have hie:i=n:=by have:=of_decide_eq_false hc; omega
  subst hie
  conv=>whnf
  repeat'(first|exact trivial|exact rfl|refine And.intro ?_ ?_|((conv=>whnf);first|exact trivial|exact rfl|refine And.intro ?_ ?_|omega))

theorem xput_t (l:List UInt8) (hl:l.length=128) (st n:Nat) (hn:n≤8) (h:st+n≤128) (x:UInt64):Triple Tryz.prog 172 [arrS l,iv .i64 st,iv .i64 n,uv x] [] 0 (arrS (spl l st (setF n x))) []:=by
 have hX:=setF_length n x
 refine triple_of tB_ok Tryz.func172 rfl Tryz.call172 rfl ?_
 intro ρ w hH
 conv=>whnf
 refine boxA_step (l:=l) rfl rfl ?_
 rw [hl]
 conv=>whnf
 refine allocA_step tB_ok 128 rfl rfl rfl ?_
 conv=>whnf
 refine loop_step tB_ok (G:=Nat) 0 [] (fun i=>[(9,iv .i64 i)]) (fun i=>[(0,true, .arr (aU8 (some 128) (spl l st ((setF n x).take i))))]) (fun i=>i≤n) (fun i=>n - i) ?_
 conv=>whnf
 refine⟨⟨0,Nat.zero_le _, ?_⟩, ?_⟩
 ·dsimp only
  rw [List.take_zero,spl_nil]
  conv=>whnf
  repeat'(first|exact trivial|exact rfl|refine And.intro ?_ ?_|((conv=>whnf);first|exact trivial|exact rfl|refine And.intro ?_ ?_|omega))
 intro i hi ρ3 t3 hρ3
 have hi:i≤n:=hi
 have hsl:(spl l st ((setF n x).take i)).length=128:=spl_len hl (by rw [List.length_take]; omega)
 conv=>whnf
 refine⟨fun hc=>?_,fun hc=>?_⟩
 ·have hlt:i < n:=by have:=of_decide_eq_true hc; omega
  have hst:=@spl_step l (setF n x) st i (by omega) (by omega)
  have gx:=setF_get n x i (by omega) hn
  rw [gx] at hst
  generalize spl l st ((setF n x).take i)=P at hst hsl ⊢
  conv=>whnf
  refine⟨((st+i:Nat):Int),by rw [wrapId ⟨by omega,by omega⟩]; push_cast; rfl, ?_⟩
  conv=>whnf
  refine⟨((n - 1:Nat):Int),by rw [wrapId ⟨by omega,by omega⟩]; omega, ?_⟩
  conv=>whnf
  refine⟨((n - 1 - i:Nat):Int),by rw [wrapId ⟨by omega,by omega⟩]; omega, ?_⟩
  conv=>whnf
  refine⟨((8 * (n - 1 - i):Nat):Int),by rw [wrapId ⟨by omega,by omega⟩]; push_cast; rfl, ?_⟩
  conv=>whnf
  refine⟨by omega,_,u64_shr _ (8 * (n - 1 - i)) (by omega), ?_⟩
  conv=>whnf
  refine⟨_,u64_to8 _, ?_⟩
  conv=>whnf
  refine iaA_step tB_ok rfl rfl rfl rfl rfl rfl (st+i) rfl (by omega) ?_
  conv=>whnf
  refine⟨by show st+i < P.length; omega,_,rfl, ?_⟩
  conv=>whnf
  refine⟨_,wrapId ⟨by omega,by omega⟩, ?_⟩
  refine⟨i+1,hlt,by show n - (i+1) < n - i; omega, ?_⟩
  dsimp only
  rw [← hst]
  conv=>whnf
  refine⟨rfl, ?_⟩
  conv=>whnf
  repeat'(first|exact trivial|exact rfl|refine And.intro ?_ ?_|((conv=>whnf);first|exact trivial|exact rfl|refine And.intro ?_ ?_|omega))
 ·have hie:i=n:=by have:=of_decide_eq_false hc; omega
  subst hie
  rw [List.take_of_length_le (by omega)] at hsl ⊢
  generalize spl l st (setF i x)=L at hsl ⊢
  conv=>whnf
  refine loadA_step (l:=L) tB_ok rfl rfl rfl rfl rfl hsl.symm ?_
  conv=>whnf
  refine storeA_step (l':=L) tB_ok rfl rfl rfl rfl rfl (by simp) (by rw [hsl]; simp) (by decide) ?_
  conv=>whnf
  refine⟨bytesV L,⟨(res_bytes hsl).1,(by rw [bytesV_length,hsl]),rfl⟩, ?_⟩
  conv=>whnf
  repeat'(first|exact trivial|exact rfl|refine And.intro ?_ ?_|((conv=>whnf);first|exact trivial|exact rfl|refine And.intro ?_ ?_|omega))

def signF (l:List UInt8) (mark:Nat) (d:List UInt8):List UInt8:=spl (spl l mark (d.take 8)) 120 (d.drop 8)

theorem signF_len {l d:List UInt8} (hl:l.length=128) (hd:d.length=16) {mark:Nat} (hm:mark≤112):(signF l mark d).length=128:=by
 unfold signF
 exact spl_len (spl_len hl (by rw [List.length_take]; omega)) (by rw [List.length_drop]; omega)

theorem xsign_t (l:List UInt8) (hl:l.length=128) (mark:Nat) (hm:mark≤112) (d:List UInt8) (hd:d.length=16):Triple Tryz.prog 173 [arrS l,iv .i64 mark,arrS d] [] 0 (arrS (signF l mark d)) []:=by
 have hB:(d.take 8).length=8:=by rw [List.length_take]; omega
 have hD:(d.drop 8).length=8:=by rw [List.length_drop]; omega
 have hend:pairN l mark (d.take 8) 120 (d.drop 8) 8=signF l mark d:=by
  unfold pairN signF
  rw [List.take_of_length_le (by omega:(d.take 8).length≤8),List.take_of_length_le (by omega:(d.drop 8).length≤8)]
 have hfl:=signF_len hl hd hm
 refine triple_of tB_ok Tryz.func173 rfl Tryz.call173 rfl ?_
 intro ρ w hH
 conv=>whnf
 refine boxA_step (l:=l) rfl rfl ?_
 rw [hl]
 conv=>whnf
 refine boxA_step (l:=d) rfl rfl ?_
 rw [hd]
 conv=>whnf
 refine allocA_step tB_ok 128 rfl rfl rfl ?_
 conv=>whnf
 refine loop_step tB_ok (G:=Nat) 0 [] (fun i=>[(7,iv .i64 i)]) (fun i=>[(0,true, .arr (aU8 (some 128) (pairN l mark (d.take 8) 120 (d.drop 8) i)))]) (fun i=>i≤8) (fun i=>8 - i) ?_
 conv=>whnf
 refine⟨⟨0,Nat.zero_le _, ?_⟩, ?_⟩
 ·dsimp only
  rw [show pairN l mark (d.take 8) 120 (d.drop 8) 0=l from by unfold pairN; rw [List.take_zero,List.take_zero,spl_nil,spl_nil]]
  conv=>whnf
  repeat'(first|exact trivial|exact rfl|refine And.intro ?_ ?_|((conv=>whnf);first|exact trivial|exact rfl|refine And.intro ?_ ?_|omega))
 intro i hi ρ3 t3 hρ3
 have hi:i≤8:=hi
 have hpl:=pairN_len (L:=l) hB hD (o1:=mark) (o2:=120) (by omega) (by omega) i
 conv=>whnf
 refine⟨fun hc=>?_,fun hc=>?_⟩
 ·have h:i < 8:=by have:=of_decide_eq_true hc; omega
  have hst:=pairN_step (L:=l) hB hD (o1:=mark) (o2:=120) (by omega) (by omega) i h
  rw [List.getElem_take,List.getElem_drop] at hst
  generalize pairN l mark (d.take 8) 120 (d.drop 8) i=P at hst hpl ⊢
  conv=>whnf
  refine⟨((mark+i:Nat):Int),by rw [wrapId ⟨by omega,by omega⟩]; push_cast; rfl, ?_⟩
  conv=>whnf
  refine iaA_step tB_ok rfl rfl rfl rfl rfl rfl i rfl (by omega) ?_
  conv=>whnf
  refine⟨by show i < d.length; omega, ?_⟩
  conv=>whnf
  refine iaA_step tB_ok rfl rfl rfl rfl rfl rfl (mark+i) rfl (by omega) ?_
  conv=>whnf
  refine⟨by show mark+i < P.length; omega,d[i]'(by omega),rfl, ?_⟩
  conv=>whnf
  refine⟨((120+i:Nat):Int),by rw [wrapId ⟨by omega,by omega⟩]; push_cast; rfl, ?_⟩
  conv=>whnf
  refine⟨((8+i:Nat):Int),by rw [wrapId ⟨by omega,by omega⟩]; push_cast; rfl, ?_⟩
  conv=>whnf
  refine iaA_step tB_ok rfl rfl rfl rfl rfl rfl (8+i) rfl (by omega) ?_
  conv=>whnf
  refine⟨by show 8+i < d.length; omega, ?_⟩
  conv=>whnf
  refine iaA_step tB_ok rfl rfl rfl rfl rfl rfl (120+i) rfl (by omega) ?_
  conv=>whnf
  refine⟨by show 120+i < (P.set (mark+i) _).length; rw [List.length_set]; omega,d[8+i]'(by omega),rfl, ?_⟩
  conv=>whnf
  refine⟨_,wrapId ⟨by omega,by omega⟩, ?_⟩
  refine⟨i+1,h,by show 8 - (i+1) < 8 - i; omega, ?_⟩
  dsimp only
  rw [← hst]
  conv=>whnf
  refine⟨rfl, ?_⟩
  conv=>whnf
  repeat'(first|exact trivial|exact rfl|refine And.intro ?_ ?_|((conv=>whnf);first|exact trivial|exact rfl|refine And.intro ?_ ?_|omega))
 ·have hie:i=8:=by have:=of_decide_eq_false hc; omega
  subst hie
  rw [hend]
  generalize signF l mark d=L at hfl ⊢
  conv=>whnf
  refine loadA_step (l:=L) tB_ok rfl rfl rfl rfl rfl hfl.symm ?_
  conv=>whnf
  refine storeA_step (l':=L) tB_ok rfl rfl rfl rfl rfl (by simp) (by rw [hfl]; simp) (by decide) ?_
  conv=>whnf
  refine⟨bytesV L,⟨(res_bytes hfl).1,(by rw [bytesV_length,hfl]),rfl⟩, ?_⟩
  conv=>whnf
  repeat'(first|exact trivial|exact rfl|refine And.intro ?_ ?_|((conv=>whnf);first|exact trivial|exact rfl|refine And.intro ?_ ?_|omega))

theorem sign_eq {l d:List UInt8} (hl:l.length=128) (hd:d.length=16) {mark:Nat} (hm:mark≤112):decide (signF l mark d=l)=(decide ((l.take (mark+8)).drop mark=d.take 8) && decide (l.drop 120=d.drop 8)):=by
 have hB:(d.take 8).length=8:=by rw [List.length_take]; omega
 have hD:(d.drop 8).length=8:=by rw [List.length_drop]; omega
 have hg:∀ i,(signF l mark d)[i]? = if 120≤i∧i < 128 then (d.drop 8)[i - 120]? else if mark≤i∧i < mark+8 then (d.take 8)[i - mark]? else l[i]?:=fun i=>by
  have g0:=spl_length (xs:=l) (ys:=d.take 8) (o:=mark) (by omega)
  have g1:=spl_get (xs:=spl l mark (d.take 8)) (ys:=d.drop 8) (o:=120) (i:=i) (by omega)
  have g2:=spl_get (xs:=l) (ys:=d.take 8) (o:=mark) (i:=i) (by omega)
  unfold signF
  rw [g1,g2,hB,hD]
 rw [← Bool.decide_and]
 refine decide_eq_decide.2 ⟨fun h=>⟨?_, ?_⟩,fun ⟨h1,h2⟩=>?_⟩
 ·refine List.ext_getElem? fun i=>?_
  rw [List.getElem?_drop,List.getElem?_take]
  by_cases hi:i < 8
  ·have:=hg (mark+i)
   rw [h,if_neg (by omega),if_pos (by omega),Nat.add_sub_cancel_left] at this
   rw [if_pos (by omega),this]
  ·rw [if_neg (by omega),List.getElem?_eq_none (by omega)]
 ·refine List.ext_getElem? fun i=>?_
  rw [List.getElem?_drop]
  by_cases hi:i < 8
  ·have:=hg (120+i)
   rw [h,if_pos (by omega),Nat.add_sub_cancel_left] at this
   exact this
  ·rw [List.getElem?_eq_none (by omega),List.getElem?_eq_none (by omega)]
 ·refine List.ext_getElem? fun i=>?_
  rw [hg]
  by_cases c1:120≤i∧i < 128
  ·rw [if_pos c1,← h2,List.getElem?_drop,show 120+(i - 120)=i from by omega]
  ·rw [if_neg c1]
   by_cases c2:mark≤i∧i < mark+8
   ·rw [if_pos c2,← h1,List.getElem?_drop,List.getElem?_take,if_pos (by omega),show mark+(i - mark)=i from by omega]
   ·rw [if_neg c2]

end Go.Proofs

namespace Go.Proofs
open Go.Sx

theorem xsigned_t (l:List UInt8) (hl:l.length=128) (mark:Nat) (hm:mark≤112) (d:List UInt8) (hd:d.length=16):Triple Tryz.prog 176 [arrS l,iv .i64 mark,arrS d] [] 0 (bv (decide (signF l mark d=l))) []:=by
 have hfl:=signF_len hl hd hm
 refine triple_of tB_ok Tryz.func176 rfl Tryz.call176 rfl ?_
 intro ρ w hH
 conv=>whnf
 refine boxA_step (l:=l) rfl rfl ?_
 rw [hl]
 conv=>whnf
 refine boxA_step (l:=d) rfl rfl ?_
 rw [hd]
 conv=>whnf
 refine loadA_step (l:=l) tB_ok rfl rfl rfl rfl rfl hl.symm ?_
 conv=>whnf
 refine loadA_step (l:=d) tB_ok rfl rfl rfl rfl rfl hd.symm ?_
 conv=>whnf
 refine call_step (xsign_t l hl mark hm d hd) rfl rfl ?_
 generalize signF l mark d=L at hfl ⊢
 conv=>whnf
 refine⟨?_, ?_, ?_⟩
 iterate 2 · repeat'(first|exact trivial|exact rfl|refine And.intro ?_ ?_|((conv=>whnf);first|exact trivial|exact rfl|refine And.intro ?_ ?_|omega))
 conv=>whnf
 refine loadA_step (l:=l) tB_ok rfl rfl rfl rfl rfl hl.symm ?_
 conv=>whnf
 refine aeq_step (n:=128) (l:=L) (l':=l) tB_ok rfl rfl rfl rfl hfl hl ?_
 conv=>whnf
 repeat'(first|exact trivial|exact rfl|refine And.intro ?_ ?_|((conv=>whnf);first|exact trivial|exact rfl|refine And.intro ?_ ?_|omega))


theorem xbaseSum_t (l:List UInt8) (hl:l.length=128):Triple Tryz.prog 174 [arrS l] [] 0 (arrS (digestF 1 l 44)) []:=by
 refine triple_of tB_ok Tryz.func174 rfl Tryz.call174 rfl ?_
 intro ρ w hH
 conv=>whnf
 refine boxA_step (l:=l) rfl rfl ?_
 rw [hl]
 conv=>whnf
 refine allocA_step tB_ok 16 rfl rfl rfl ?_
 conv=>whnf
 refine slA_step (n:=128) (l:=l) tB_ok rfl rfl rfl rfl rfl rfl ⟨44,rfl,by decide,0,rfl,by decide, ?_⟩
 conv=>whnf
 refine b2s_step (fx:=some 128) (l:=l) tB_ok rfl rfl rfl rfl rfl rfl (by rw [subN_eq]; omega) ?_
 rw [show (l.drop 0).take (subN 44 0)=l.take 44 from by rw [subN_eq]; rfl]
 conv=>whnf
 refine slA_step (n:=128) (l:=l) tB_ok rfl rfl rfl rfl rfl rfl ⟨120,rfl,by decide,44+8,rfl,by decide, ?_⟩
 conv=>whnf
 refine b2s_step (fx:=some 128) (l:=l) tB_ok rfl rfl rfl rfl rfl rfl (by rw [subN_eq]; omega) ?_
 rw [show (l.drop (44+8)).take (subN 120 (44+8))=(l.take 120).drop (44+8) from by rw [subN_eq,List.drop_take]]
 conv=>whnf
 refine cat_step (l:=l.take 44) (l':=(l.take 120).drop (44+8)) rfl rfl rfl (by rw [List.length_take,List.length_drop,List.length_take]; omega) ?_
 conv=>whnf
 refine bs_step tB_ok (aStr [l.take 44 ++ (l.take 120).drop (44+8)]) rfl rfl ?_
 conv=>whnf
 refine⟨⟨rfl,(by repeat'(first|exact trivial|exact rfl|refine And.intro ?_ ?_|((conv=>whnf);first|exact trivial|exact rfl|refine And.intro ?_ ?_|omega)))⟩, ?_⟩
 conv=>whnf
 refine call_step (xsum_t 1 (by decide) [l.take 44 ++ (l.take 120).drop (44+8)] (short1 (by rw [List.length_append,List.length_take,List.length_drop,List.length_take]; omega))) rfl rfl ?_
 conv=>whnf
 refine⟨?_, ?_, ?_⟩
 iterate 2 · repeat'(first|exact trivial|exact rfl|refine And.intro ?_ ?_|((conv=>whnf);first|exact trivial|exact rfl|refine And.intro ?_ ?_|omega))
 have hd:=digestF_length 1 l 44
 rw [show sumF 1 [l.take 44 ++ (l.take 120).drop (44+8)]=digestF 1 l 44 from rfl]
 conv=>whnf
 refine storeA_step (l':=digestF 1 l 44) tB_ok rfl rfl rfl rfl rfl (by simp) (by rw [hd]; simp) (by decide) ?_
 conv=>whnf
 refine⟨bytesV (digestF 1 l 44),⟨(res_bytes hd).1,(by rw [bytesV_length,hd]),rfl⟩, ?_⟩
 conv=>whnf
 repeat'(first|exact trivial|exact rfl|refine And.intro ?_ ?_|((conv=>whnf);first|exact trivial|exact rfl|refine And.intro ?_ ?_|omega))

theorem xframeSum_t (l:List UInt8) (hl:l.length=128):Triple Tryz.prog 177 [arrS l] [] 0 (arrS (digestF 2 l 22)) []:=by
 refine triple_of tB_ok Tryz.func177 rfl Tryz.call177 rfl ?_
 intro ρ w hH
 conv=>whnf
 refine boxA_step (l:=l) rfl rfl ?_
 rw [hl]
 conv=>whnf
 refine allocA_step tB_ok 16 rfl rfl rfl ?_
 conv=>whnf
 refine slA_step (n:=128) (l:=l) tB_ok rfl rfl rfl rfl rfl rfl ⟨22,rfl,by decide,0,rfl,by decide, ?_⟩
 conv=>whnf
 refine b2s_step (fx:=some 128) (l:=l) tB_ok rfl rfl rfl rfl rfl rfl (by rw [subN_eq]; omega) ?_
 rw [show (l.drop 0).take (subN 22 0)=l.take 22 from by rw [subN_eq]; rfl]
 conv=>whnf
 refine slA_step (n:=128) (l:=l) tB_ok rfl rfl rfl rfl rfl rfl ⟨120,rfl,by decide,22+8,rfl,by decide, ?_⟩
 conv=>whnf
 refine b2s_step (fx:=some 128) (l:=l) tB_ok rfl rfl rfl rfl rfl rfl (by rw [subN_eq]; omega) ?_
 rw [show (l.drop (22+8)).take (subN 120 (22+8))=(l.take 120).drop (22+8) from by rw [subN_eq,List.drop_take]]
 conv=>whnf
 refine cat_step (l:=l.take 22) (l':=(l.take 120).drop (22+8)) rfl rfl rfl (by rw [List.length_take,List.length_drop,List.length_take]; omega) ?_
 conv=>whnf
 refine bs_step tB_ok (aStr [l.take 22 ++ (l.take 120).drop (22+8)]) rfl rfl ?_
 conv=>whnf
 refine⟨⟨rfl,(by repeat'(first|exact trivial|exact rfl|refine And.intro ?_ ?_|((conv=>whnf);first|exact trivial|exact rfl|refine And.intro ?_ ?_|omega)))⟩, ?_⟩
 conv=>whnf
 refine call_step (xsum_t 2 (by decide) [l.take 22 ++ (l.take 120).drop (22+8)] (short1 (by rw [List.length_append,List.length_take,List.length_drop,List.length_take]; omega))) rfl rfl ?_
 conv=>whnf
 refine⟨?_, ?_, ?_⟩
 iterate 2 · repeat'(first|exact trivial|exact rfl|refine And.intro ?_ ?_|((conv=>whnf);first|exact trivial|exact rfl|refine And.intro ?_ ?_|omega))
 have hd:=digestF_length 2 l 22
 rw [show sumF 2 [l.take 22 ++ (l.take 120).drop (22+8)]=digestF 2 l 22 from rfl]
 conv=>whnf
 refine storeA_step (l':=digestF 2 l 22) tB_ok rfl rfl rfl rfl rfl (by simp) (by rw [hd]; simp) (by decide) ?_
 conv=>whnf
 refine⟨bytesV (digestF 2 l 22),⟨(res_bytes hd).1,(by rw [bytesV_length,hd]),rfl⟩, ?_⟩
 conv=>whnf
 repeat'(first|exact trivial|exact rfl|refine And.intro ?_ ?_|((conv=>whnf);first|exact trivial|exact rfl|refine And.intro ?_ ?_|omega))

theorem xisFrame_t (l:List UInt8) (hl:l.length=128):Triple Tryz.prog 132 [arrS l] [] 0 (bv (sealedF 2 l 22)) []:=by
 have hd:=digestF_length 2 l 22
 have hs:=xsigned_t l hl 22 (by decide) (digestF 2 l 22) hd
 rw [sign_eq hl hd (by decide)] at hs
 rw [show sealedF 2 l 22=(decide ((l.take (22+8)).drop 22=(digestF 2 l 22).take 8) && decide (l.drop 120=(digestF 2 l 22).drop 8)) from rfl]
 refine triple_of tB_ok Tryz.func132 rfl Tryz.call132 rfl ?_
 intro ρ w hH
 conv=>whnf
 refine boxA_step (l:=l) rfl rfl ?_
 rw [hl]
 conv=>whnf
 refine loadA_step (l:=l) tB_ok rfl rfl rfl rfl rfl hl.symm ?_
 conv=>whnf
 refine loadA_step (l:=l) tB_ok rfl rfl rfl rfl rfl hl.symm ?_
 conv=>whnf
 refine call_step (xframeSum_t l hl) rfl rfl ?_
 conv=>whnf
 refine⟨?_, ?_, ?_⟩
 iterate 2 · repeat'(first|exact trivial|exact rfl|refine And.intro ?_ ?_|((conv=>whnf);first|exact trivial|exact rfl|refine And.intro ?_ ?_|omega))
 conv=>whnf
 refine call_step hs rfl rfl ?_
 conv=>whnf
 refine⟨?_, ?_, ?_⟩
 iterate 2 · repeat'(first|exact trivial|exact rfl|refine And.intro ?_ ?_|((conv=>whnf);first|exact trivial|exact rfl|refine And.intro ?_ ?_|omega))
 conv=>whnf
 repeat'(first|exact trivial|exact rfl|refine And.intro ?_ ?_|((conv=>whnf);first|exact trivial|exact rfl|refine And.intro ?_ ?_|omega))



theorem xisBase_t (l:List UInt8) (hl:l.length=128) (number:Nat) (hn:number≤100):Triple Tryz.prog 131 [arrS l,iv .i64 number] [] 0 (bv (isBaseF l number)) []:=by
 have hdg:=digestF_length 1 l 44
 have hs:=xsigned_t l hl 44 (by decide) (digestF 1 l 44) hdg
 rw [sign_eq hl hdg (by decide),show (decide ((l.take (44+8)).drop 44=(digestF 1 l 44).take 8) && decide (l.drop 120=(digestF 1 l 44).drop 8))=sealedF 1 l 44 from rfl] at hs
 refine triple_of tB_ok Tryz.func131 rfl Tryz.call131 rfl ?_
 intro ρ w hH
 conv=>whnf
 refine boxA_step (l:=l) rfl rfl ?_
 rw [hl]
 conv=>whnf
 refine loadA_step (l:=l) tB_ok rfl rfl rfl rfl rfl hl.symm ?_
 conv=>whnf
 refine call_step (xbytes_t l hl 8 8 (by decide)) rfl rfl ?_
 rw [show getF (subL l 8 (8+8))=(readB l).gen from rfl]
 conv=>whnf
 refine⟨?_, ?_, ?_⟩
 iterate 2 · repeat'(first|exact trivial|exact rfl|refine And.intro ?_ ?_|((conv=>whnf);first|exact trivial|exact rfl|refine And.intro ?_ ?_|omega))
 conv=>whnf
 refine loadA_step (l:=l) tB_ok rfl rfl rfl rfl rfl hl.symm ?_
 conv=>whnf
 refine call_step (xbytes_t l hl 20 8 (by decide)) rfl rfl ?_
 rw [show getF (subL l 20 (20+8))=(readB l).first from rfl]
 conv=>whnf
 refine⟨?_, ?_, ?_⟩
 iterate 2 · repeat'(first|exact trivial|exact rfl|refine And.intro ?_ ?_|((conv=>whnf);first|exact trivial|exact rfl|refine And.intro ?_ ?_|omega))
 have hdp:getF (subL l 28 (28+8))=(readB l).dropped:=rfl
 generalize hB:readB l=b at hdp ⊢
 conv=>whnf
 refine⟨fun hc=>?_,fun hc=>?_⟩
 rotate_left
 ·have c2:¬ 1≤b.gen.toNat:=by have:=of_decide_eq_false hc; omega
  conv=>whnf
  rw [show isBaseF l number=false from by simp [isBaseF,hB,c2]]
  conv=>whnf
  refine slA_step (n:=128) (l:=l) tB_ok rfl rfl rfl rfl rfl rfl ⟨8,rfl,by decide,0,rfl,by decide, ?_⟩
  conv=>whnf
  refine b2s_step (fx:=some 128) (l:=l) tB_ok rfl rfl rfl rfl rfl rfl (by show 0+8≤_; omega) ?_
  rw [show (l.drop 0).take (subN 8 0)=subL l 0 8 from rfl]
  conv=>whnf
  refine seq_step (l:=subL l 0 8) (l':=magicL) rfl rfl rfl ?_
  conv=>whnf
  refine⟨fun hc=>?_,fun hc=>?_⟩
  ·conv=>whnf
   repeat'(first|exact trivial|exact rfl|refine And.intro ?_ ?_|((conv=>whnf);first|exact trivial|exact rfl|refine And.intro ?_ ?_|omega))
  ·conv=>whnf
   repeat'(first|exact trivial|exact rfl|refine And.intro ?_ ?_|((conv=>whnf);first|exact trivial|exact rfl|refine And.intro ?_ ?_|omega))
 have c2:1≤b.gen.toNat:=by have:=of_decide_eq_true hc; omega
 conv=>whnf
 refine⟨fun hc=>?_,fun hc=>?_⟩
 rotate_left
 ·have c3:¬ b.gen.toNat≤4611686018427387904:=by have:=of_decide_eq_false hc; omega
  conv=>whnf
  rw [show isBaseF l number=false from by simp [isBaseF,hB,c3]]
  conv=>whnf
  refine slA_step (n:=128) (l:=l) tB_ok rfl rfl rfl rfl rfl rfl ⟨8,rfl,by decide,0,rfl,by decide, ?_⟩
  conv=>whnf
  refine b2s_step (fx:=some 128) (l:=l) tB_ok rfl rfl rfl rfl rfl rfl (by show 0+8≤_; omega) ?_
  rw [show (l.drop 0).take (subN 8 0)=subL l 0 8 from rfl]
  conv=>whnf
  refine seq_step (l:=subL l 0 8) (l':=magicL) rfl rfl rfl ?_
  conv=>whnf
  refine⟨fun hc=>?_,fun hc=>?_⟩
  ·conv=>whnf
   repeat'(first|exact trivial|exact rfl|refine And.intro ?_ ?_|((conv=>whnf);first|exact trivial|exact rfl|refine And.intro ?_ ?_|omega))
  ·conv=>whnf
   repeat'(first|exact trivial|exact rfl|refine And.intro ?_ ?_|((conv=>whnf);first|exact trivial|exact rfl|refine And.intro ?_ ?_|omega))
 have c3:b.gen.toNat≤4611686018427387904:=by have:=of_decide_eq_true hc; omega
 conv=>whnf
 refine⟨by decide,((b.gen.toNat % 2:Nat):Int),(Int.ofNat_tmod b.gen.toNat 2).symm, ?_⟩
 conv=>whnf
 refine⟨(number:Int),wrap_u64_nat number (by omega), ?_⟩
 conv=>whnf
 refine⟨fun hc=>?_,fun hc=>?_⟩
 rotate_left
 ·have c4:¬ b.gen.toNat % 2=number:=by have:=of_decide_eq_false hc; omega
  conv=>whnf
  rw [show isBaseF l number=false from by simp [isBaseF,hB,c4]]
  conv=>whnf
  refine slA_step (n:=128) (l:=l) tB_ok rfl rfl rfl rfl rfl rfl ⟨8,rfl,by decide,0,rfl,by decide, ?_⟩
  conv=>whnf
  refine b2s_step (fx:=some 128) (l:=l) tB_ok rfl rfl rfl rfl rfl rfl (by show 0+8≤_; omega) ?_
  rw [show (l.drop 0).take (subN 8 0)=subL l 0 8 from rfl]
  conv=>whnf
  refine seq_step (l:=subL l 0 8) (l':=magicL) rfl rfl rfl ?_
  conv=>whnf
  refine⟨fun hc=>?_,fun hc=>?_⟩
  ·conv=>whnf
   repeat'(first|exact trivial|exact rfl|refine And.intro ?_ ?_|((conv=>whnf);first|exact trivial|exact rfl|refine And.intro ?_ ?_|omega))
  ·conv=>whnf
   repeat'(first|exact trivial|exact rfl|refine And.intro ?_ ?_|((conv=>whnf);first|exact trivial|exact rfl|refine And.intro ?_ ?_|omega))
 have c4:b.gen.toNat % 2=number:=by have:=of_decide_eq_true hc; omega
 conv=>whnf
 refine⟨fun hc=>?_,fun hc=>?_⟩
 rotate_left
 ·have c5:¬ 1≤b.first.toNat:=by have:=of_decide_eq_false hc; omega
  conv=>whnf
  rw [show isBaseF l number=false from by simp [isBaseF,hB,c5]]
  conv=>whnf
  refine slA_step (n:=128) (l:=l) tB_ok rfl rfl rfl rfl rfl rfl ⟨8,rfl,by decide,0,rfl,by decide, ?_⟩
  conv=>whnf
  refine b2s_step (fx:=some 128) (l:=l) tB_ok rfl rfl rfl rfl rfl rfl (by show 0+8≤_; omega) ?_
  rw [show (l.drop 0).take (subN 8 0)=subL l 0 8 from rfl]
  conv=>whnf
  refine seq_step (l:=subL l 0 8) (l':=magicL) rfl rfl rfl ?_
  conv=>whnf
  refine⟨fun hc=>?_,fun hc=>?_⟩
  ·conv=>whnf
   repeat'(first|exact trivial|exact rfl|refine And.intro ?_ ?_|((conv=>whnf);first|exact trivial|exact rfl|refine And.intro ?_ ?_|omega))
  ·conv=>whnf
   repeat'(first|exact trivial|exact rfl|refine And.intro ?_ ?_|((conv=>whnf);first|exact trivial|exact rfl|refine And.intro ?_ ?_|omega))
 have c5:1≤b.first.toNat:=by have:=of_decide_eq_true hc; omega
 conv=>whnf
 refine⟨fun hc=>?_,fun hc=>?_⟩
 rotate_left
 ·have c6:¬ b.first.toNat≤4611686018427387904:=by have:=of_decide_eq_false hc; omega
  conv=>whnf
  rw [show isBaseF l number=false from by simp [isBaseF,hB,c6]]
  conv=>whnf
  refine slA_step (n:=128) (l:=l) tB_ok rfl rfl rfl rfl rfl rfl ⟨8,rfl,by decide,0,rfl,by decide, ?_⟩
  conv=>whnf
  refine b2s_step (fx:=some 128) (l:=l) tB_ok rfl rfl rfl rfl rfl rfl (by show 0+8≤_; omega) ?_
  rw [show (l.drop 0).take (subN 8 0)=subL l 0 8 from rfl]
  conv=>whnf
  refine seq_step (l:=subL l 0 8) (l':=magicL) rfl rfl rfl ?_
  conv=>whnf
  refine⟨fun hc=>?_,fun hc=>?_⟩
  ·conv=>whnf
   repeat'(first|exact trivial|exact rfl|refine And.intro ?_ ?_|((conv=>whnf);first|exact trivial|exact rfl|refine And.intro ?_ ?_|omega))
  ·conv=>whnf
   repeat'(first|exact trivial|exact rfl|refine And.intro ?_ ?_|((conv=>whnf);first|exact trivial|exact rfl|refine And.intro ?_ ?_|omega))
 have c6:b.first.toNat≤4611686018427387904:=by have:=of_decide_eq_true hc; omega
 conv=>whnf
 refine loadA_step (l:=l) tB_ok rfl rfl rfl rfl rfl hl.symm ?_
 conv=>whnf
 refine call_step (xbytes_t l hl 28 8 (by decide)) rfl rfl ?_
 rw [hdp]
 conv=>whnf
 refine⟨?_, ?_, ?_⟩
 iterate 2 · repeat'(first|exact trivial|exact rfl|refine And.intro ?_ ?_|((conv=>whnf);first|exact trivial|exact rfl|refine And.intro ?_ ?_|omega))
 conv=>whnf
 refine slA_step (n:=128) (l:=l) tB_ok rfl rfl rfl rfl rfl rfl ⟨8,rfl,by decide,0,rfl,by decide, ?_⟩
 conv=>whnf
 refine b2s_step (fx:=some 128) (l:=l) tB_ok rfl rfl rfl rfl rfl rfl (by show 0+8≤_; omega) ?_
 rw [show (l.drop 0).take (subN 8 0)=subL l 0 8 from rfl]
 conv=>whnf
 refine seq_step (l:=subL l 0 8) (l':=magicL) rfl rfl rfl ?_
 conv=>whnf
 refine⟨fun hc=>?_,fun hc=>?_⟩
 rotate_left
 ·rw [show isBaseF l number=false from by
   have c1:¬ subL l 0 8=magicL:=of_decide_eq_false hc
   simp [isBaseF,c1]]
  conv=>whnf
  repeat'(first|exact trivial|exact rfl|refine And.intro ?_ ?_|((conv=>whnf);first|exact trivial|exact rfl|refine And.intro ?_ ?_|omega))
 have c1:subL l 0 8=magicL:=of_decide_eq_true hc
 conv=>whnf
 refine⟨fun hc=>?_,fun hc=>?_⟩
 rotate_left
 ·have c7:¬ b.dropped.toNat≤4611686018427387904:=by have:=of_decide_eq_false hc; omega
  rw [show isBaseF l number=false from by simp [isBaseF,hB,c7]]
  conv=>whnf
  repeat'(first|exact trivial|exact rfl|refine And.intro ?_ ?_|((conv=>whnf);first|exact trivial|exact rfl|refine And.intro ?_ ?_|omega))
 have c7:b.dropped.toNat≤4611686018427387904:=by have:=of_decide_eq_true hc; omega
 rw [show isBaseF l number=sealedF 1 l 44 from by simp [isBaseF,hB,c1,c2,c3,c4,c5,c6,c7]]
 conv=>whnf
 refine loadA_step (l:=l) tB_ok rfl rfl rfl rfl rfl hl.symm ?_
 conv=>whnf
 refine loadA_step (l:=l) tB_ok rfl rfl rfl rfl rfl hl.symm ?_
 conv=>whnf
 refine call_step (xbaseSum_t l hl) rfl rfl ?_
 conv=>whnf
 refine⟨?_, ?_, ?_⟩
 iterate 2 · repeat'(first|exact trivial|exact rfl|refine And.intro ?_ ?_|((conv=>whnf);first|exact trivial|exact rfl|refine And.intro ?_ ?_|omega))
 conv=>whnf
 refine call_step hs rfl rfl ?_
 conv=>whnf
 refine⟨?_, ?_, ?_⟩
 iterate 2 · repeat'(first|exact trivial|exact rfl|refine And.intro ?_ ?_|((conv=>whnf);first|exact trivial|exact rfl|refine And.intro ?_ ?_|omega))
 conv=>whnf
 repeat'(first|exact trivial|exact rfl|refine And.intro ?_ ?_|((conv=>whnf);first|exact trivial|exact rfl|refine And.intro ?_ ?_|omega))

end Go.Proofs

namespace Go.Proofs
open Go.Sx

theorem xnewDisk0_t (n:Nat) (hn:1≤n∧n≤65536):Triple Tryz.prog 73 [iv .i64 n] [] 0 (.tup [.inl (.p 1 0 0 0), .inl (.v (.int .i64 0))]) [(0,true, .arr (aRowN (List.replicate n zSct))),(1,true,dskC 0 n)]:=by
 refine triple_of tB_ok Tryz.func73 rfl Tryz.call73 rfl ?_
 intro ρ w hH
 conv=>whnf
 refine⟨fun hc=>?_,fun hc=>?_⟩
 ·simp at hc; omega
 conv=>whnf
 refine⟨fun hc=>?_,fun hc=>?_⟩
 ·simp at hc; omega
 conv=>whnf
 refine mkRows_step tB_ok n rfl rfl rfl rfl rfl (by decide) rfl rfl (by omega) ?_
 conv=>whnf
 repeat'(first|exact trivial|exact rfl|refine And.intro ?_ ?_|((conv=>whnf);first|exact trivial|exact rfl|refine And.intro ?_ ?_|omega))

theorem xnewDisk_t (n:Nat) (hn:1≤n∧n≤65536):Triple Tryz.prog 73 [iv .i64 n] [] 0 (.tup [.inl (.p 1 0 0 0), .inl (.v (.int .i64 0))]) [(0,true,dkR 2 (newDk n)),(2,true,dkB (newDk n)),(1,true,dskC 0 (newDk n).length)]:=by
 have:=Triple.addBox (kb:=2) (xnewDisk0_t n hn) (by decide) (by decide) (fun j own o hj=>by
  rw [look_cons] at hj
  by_cases h:j=1
  ·rw [if_pos h] at hj; simp at hj; obtain ⟨_,rfl⟩:=hj; subst h; exact⟨by decide,rfl⟩
  ·rw [if_neg h] at hj; cases hj) rfl
 rw [← newDk_rows,← newDk_pnd] at this
 rw [newDk_length]; exact this

theorem xlook_t (D:Dk) (i:Nat) (h:i < D.length):Triple Tryz.prog 170 [.c (.p 0 0 0 0),iv .i64 i] (dkH D) 3 (iv .i64 0) []:=by
 have hrl:=rowsF_length D
 refine triple_of tB_ok Tryz.func170 rfl Tryz.call170 rfl ?_
 intro ρ w hH
 conv=>whnf
 refine⟨fun hc=>absurd hc (by simp),fun hc=>?_⟩
 conv=>whnf
 refine⟨fun hc=>absurd hc (by simp),fun hc=>?_⟩
 conv=>whnf
 refine⟨fun hc=>?_,fun hc=>?_⟩
 ·simp at hc; omega
 conv=>whnf
 repeat'(first|exact trivial|exact rfl|refine And.intro ?_ ?_|((conv=>whnf);first|exact trivial|exact rfl|refine And.intro ?_ ?_|omega))

theorem xstep_t (D:Dk):Triple Tryz.prog 171 [.c (.p 0 0 0 0)] [(0,true,dskC 1 D.length),(1,false,dkR 2 D),(2,false,dkB D)] 3 (bv true) [(0,true,dskC 1 D.length)]:=by
 refine triple_of tB_ok Tryz.func171 rfl Tryz.call171 rfl ?_
 intro ρ w hH
 conv=>whnf
 refine⟨fun hc=>absurd hc (by simp),fun hc=>?_⟩
 conv=>whnf
 refine⟨fun hc=>absurd hc (by simp),fun hc=>?_⟩
 conv=>whnf
 refine⟨_,wrapId ⟨by omega,by omega⟩, ?_⟩
 conv=>whnf
 repeat'(first|exact trivial|exact rfl|refine And.intro ?_ ?_|((conv=>whnf);first|exact trivial|exact rfl|refine And.intro ?_ ?_|omega))

theorem xread_t (D:Dk) (i:Nat) (h:i < D.length):Triple Tryz.prog 175 [.c (.p 0 0 0 0),iv .i64 i] (dkH D) 3 (.tup [.inl (.v (arrV (seenF D[i]).l)), .inl (.v (.int .i64 0))]) []:=by
 have hrl:=rowsF_length D
 refine triple_of tB_ok Tryz.func175 rfl Tryz.call175 rfl ?_
 intro ρ w hH
 conv=>whnf
 refine allocA_step tB_ok 128 rfl rfl rfl ?_
 conv=>whnf
 refine call_step (xlook_t D i h) rfl rfl ?_
 conv=>whnf
 refine⟨(by repeat' (first | exact (aRow_ren rfl) | exact trivial | exact rfl | refine And.intro ?_ ?_ | ((conv=>whnf); first | exact (aRow_ren rfl) | exact trivial | exact rfl | refine And.intro ?_ ?_ | omega))),(by repeat' (first | exact (aRow_ren rfl) | exact trivial | exact rfl | refine And.intro ?_ ?_ | ((conv=>whnf); first | exact (aRow_ren rfl) | exact trivial | exact rfl | refine And.intro ?_ ?_ | omega))), ?_⟩
 conv=>whnf
 refine⟨fun hc=>absurd hc (by simp),fun hc=>?_⟩
 conv=>whnf
 refine⟨i,rfl,h, ?_⟩
 conv=>whnf
 cases hq:D[i].2 with
 | none =>
  rw [show seenF D[i]=D[i].1 from by simp [seenF,hq]]
  refine loadRow_step tB_ok D[i].1 (.v nilV) rfl rfl rfl rfl rfl rfl rfl (rows_none h hq) ?_
  conv=>whnf
  refine allocRow_step tB_ok rfl rfl rfl ?_
  conv=>whnf
  refine storeRow_step (kp:=0) (b:=none) tB_ok (aRowN [zSct]) zSct D[i].1 (.v nilV) rfl rfl rfl rfl rfl rfl rfl (Nat.zero_lt_one) rfl D[i].1 rfl ?_
  conv=>whnf
  refine loadNil_step (s:=D[i].1) (u:=nilV) tB_ok rfl rfl rfl rfl rfl rfl ⟨D[i].1,rfl,rfl⟩ ?_
  conv=>whnf
  refine⟨fun hc=>absurd hc (by simp),fun hc=>?_⟩
  conv=>whnf
  refine loadSec_step tB_ok D[i].1 (.v nilV) rfl rfl rfl rfl rfl rfl rfl ⟨D[i].1,rfl,rfl⟩ ?_
  conv=>whnf
  refine storeA_step (l':=D[i].1.l) tB_ok rfl rfl rfl rfl rfl (by simp) (by rw [D[i].1.h]; simp) (by decide) ?_
  conv=>whnf
  refine⟨bytesV D[i].1.l,⟨(res_bytes D[i].1.h).1,(by rw [bytesV_length,D[i].1.h]),rfl⟩, ?_⟩
  conv=>whnf
  repeat'(first|exact trivial|exact rfl|refine And.intro ?_ ?_|((conv=>whnf);first|exact trivial|exact rfl|refine And.intro ?_ ?_|omega))
 | some q =>
  rw [show seenF D[i]=q from by simp [seenF,hq]]
  refine loadRow_step tB_ok D[i].1 (.ghost 2 i) rfl rfl rfl rfl rfl rfl rfl (rows_some h hq) ?_
  conv=>whnf
  refine allocRow_step tB_ok rfl rfl rfl ?_
  conv=>whnf
  refine storeVar_step (kp:=2) tB_ok zSct D[i].1 i rfl rfl rfl rfl rfl rfl ?_
  conv=>whnf
  refine loadPend_step (s:=D[i].1) (q:=q) tB_ok rfl rfl rfl rfl rfl rfl ⟨(D[i].1,some i),rfl,rfl⟩ rfl (pnd_some h hq) ?_
  conv=>whnf
  refine⟨fun hc=>?_,fun hc=>absurd hc (by simp)⟩
  conv=>whnf
  refine loadPend_step (s:=D[i].1) (q:=q) tB_ok rfl rfl rfl rfl rfl rfl ⟨(D[i].1,some i),rfl,rfl⟩ rfl (pnd_some h hq) ?_
  conv=>whnf
  refine loadPend_step (s:=D[i].1) (q:=q) tB_ok rfl rfl rfl rfl rfl rfl ⟨(D[i].1,some i),rfl,rfl⟩ rfl (pnd_some h hq) ?_
  conv=>whnf
  refine⟨0,by decide, ?_⟩
  conv=>whnf
  refine⟨0,rfl,by decide, ?_⟩
  conv=>whnf
  refine loadS_step (s:=q) tB_ok rfl rfl rfl rfl rfl rfl rfl ?_
  conv=>whnf
  refine storeA_step (l':=q.l) tB_ok rfl rfl rfl rfl rfl (by simp) (by rw [q.h]; simp) (by decide) ?_
  conv=>whnf
  refine⟨bytesV q.l,⟨(res_bytes q.h).1,(by rw [bytesV_length,q.h]),rfl⟩, ?_⟩
  conv=>whnf
  repeat'(first|exact trivial|exact rfl|refine And.intro ?_ ?_|((conv=>whnf);first|exact trivial|exact rfl|refine And.intro ?_ ?_|omega))

theorem xwrite_t (D:Dk) (i:Nat) (h:i < D.length) (hn:D[i].2=none) (q:Sct):Triple Tryz.prog 125 [.c (.p 0 0 0 0),iv .i64 i,arrS q.l]
  [(0,true,dskC 1 D.length),(1,true,dkR 2 D),(2,true,dkB D)] 3 (iv .i64 0) [(0,true,dskC 1 D.length),(1,true,dkR 3 (setD D i q)),(3,true,dkB (setD D i q))]:=by
 have hrl:=rowsF_length D
 refine triple_of tB_ok Tryz.func125 rfl Tryz.call125 rfl ?_
 intro ρ w hH
 conv=>whnf
 refine boxA_step (l:=q.l) rfl rfl ?_
 rw [q.h]
 conv=>whnf
 refine call_step (xlook_t D i h) rfl rfl ?_
 conv=>whnf
 refine⟨(by repeat' (first | exact (aRow_ren rfl) | exact trivial | exact rfl | refine And.intro ?_ ?_ | ((conv=>whnf); first | exact (aRow_ren rfl) | exact trivial | exact rfl | refine And.intro ?_ ?_ | omega))),(by repeat' (first | exact (aRow_ren rfl) | exact trivial | exact rfl | refine And.intro ?_ ?_ | ((conv=>whnf); first | exact (aRow_ren rfl) | exact trivial | exact rfl | refine And.intro ?_ ?_ | omega))), ?_⟩
 conv=>whnf
 refine⟨fun hc=>absurd hc (by simp),fun hc=>?_⟩
 conv=>whnf
 refine call_step (xstep_t D) rfl rfl ?_
 conv=>whnf
 refine⟨(by repeat' (first | exact (aRow_ren rfl) | exact trivial | exact rfl | refine And.intro ?_ ?_ | ((conv=>whnf); first | exact (aRow_ren rfl) | exact trivial | exact rfl | refine And.intro ?_ ?_ | omega))),(by repeat' (first | exact (aRow_ren rfl) | exact trivial | exact rfl | refine And.intro ?_ ?_ | ((conv=>whnf); first | exact (aRow_ren rfl) | exact trivial | exact rfl | refine And.intro ?_ ?_ | omega))), ?_⟩
 conv=>whnf
 refine⟨fun hc=>absurd hc (by simp),fun hc=>?_⟩
 conv=>whnf
 refine⟨i,rfl,h, ?_⟩
 conv=>whnf
 refine loadNil_step (s:=D[i].1) (u:=nilV) tB_ok rfl rfl rfl rfl rfl rfl (rows_none h hn) ?_
 conv=>whnf
 refine loadA_step (l:=q.l) tB_ok rfl rfl rfl rfl rfl q.h.symm ?_
 conv=>whnf
 refine bsSec_step (s:=q) tB_ok rfl rfl rfl rfl rfl ?_
 conv=>whnf
 refine appNil_step tB_ok (aSec []) [q] (fun x=>allOne_aSec x _) rfl rfl rfl rfl ?_
 conv=>whnf
 refine⟨⟨rfl,rfl,Nat.le_refl _,by decide⟩, ?_⟩
 conv=>whnf
 refine⟨i,rfl,h, ?_⟩
 conv=>whnf
 refine storeClose_step (D:=D) (d:=D[i].1) (q:=q) (i:=i) (k':=6) tB_ok rfl rfl rfl rfl rfl rfl rfl rfl (by rw [List.getElem?_eq_getElem h,← hn]) (by decide) (by decide) ?_
 conv=>whnf
 repeat' (first | exact (aRow_ren rfl) | exact trivial | exact rfl | refine And.intro ?_ ?_ | ((conv=>whnf); first | exact (aRow_ren rfl) | exact trivial | exact rfl | refine And.intro ?_ ?_ | omega))

theorem xsync0_t (D:Dk) (hl:D.length≤100000):Triple Tryz.prog 127 [.c (.p 0 0 0 0)]
  ([(0,true,dskC 1 D.length),(1,true,dkR 2 D)] ++ [(2,false,dkB D)]) 3 (iv .i64 0) [(0,true,dskC 1 D.length),(1,true,dkR 2 (syncF D))]:=by
 have hrl:=rowsF_length D
 refine triple_of tB_ok Tryz.func127 rfl Tryz.call127 rfl ?_
 intro ρ w hH
 conv=>whnf
 refine call_step (xstep_t D) rfl rfl ?_
 conv=>whnf
 refine⟨(by repeat' (first | exact (aRow_ren rfl) | exact trivial | exact rfl | refine And.intro ?_ ?_ | ((conv=>whnf); first | exact (aRow_ren rfl) | exact trivial | exact rfl | refine And.intro ?_ ?_ | omega))),(by repeat' (first | exact (aRow_ren rfl) | exact trivial | exact rfl | refine And.intro ?_ ?_ | ((conv=>whnf); first | exact (aRow_ren rfl) | exact trivial | exact rfl | refine And.intro ?_ ?_ | omega))), ?_⟩
 conv=>whnf
 refine⟨fun hc=>absurd hc (by simp),fun hc=>?_⟩
 conv=>whnf
 refine loop_step tB_ok (G:=Nat) 0 [] (fun i=>[(4,iv .i64 i)]) (fun i=>[(1,true,dkR 2 (syncN D i))]) (fun i=>i≤D.length) (fun i=>D.length - i) ?_
 conv=>whnf
 refine⟨⟨0,Nat.zero_le _, ?_⟩, ?_⟩
 ·dsimp only
  rw [show syncN D 0=D from by simp [syncN]]
  conv=>whnf
  repeat' (first | exact (aRow_ren rfl) | exact trivial | exact rfl | refine And.intro ?_ ?_ | ((conv=>whnf); first | exact (aRow_ren rfl) | exact trivial | exact rfl | refine And.intro ?_ ?_ | omega))
 intro i hi ρ1 t1 hρ1
 have hsl:=syncN_length D i
 have hsr:=rowsF_length (syncN D i)
 conv=>whnf
 refine⟨fun hc=>?_,fun hc=>?_⟩
 ·have h:i < D.length:=by simp at hc; omega
  have h2:i < (syncN D i).length:=by omega
  have hg:=syncN_get D h h2
  have hst:=rowsF_set (syncN D i) i (seenF D[i])
  rw [← syncN_succ D h] at hst
  conv=>whnf
  refine⟨i,rfl,h, ?_⟩
  conv=>whnf
  cases hq:D[i].2 with
  | none =>
   refine loadRow_step tB_ok (syncN D i)[i].1 (.v nilV) rfl rfl rfl rfl rfl rfl rfl (rows_none h2 (by rw [hg]; exact hq)) ?_
   conv=>whnf
   refine allocRow_step tB_ok rfl rfl rfl ?_
   conv=>whnf
   refine storeRow_step (kp:=0) (b:=none) tB_ok (aRowN [zSct]) zSct (syncN D i)[i].1 (.v nilV) rfl rfl rfl rfl rfl rfl rfl (Nat.zero_lt_one) rfl (syncN D i)[i].1 rfl ?_
   conv=>whnf
   refine loadNil_step (s:=(syncN D i)[i].1) (u:=nilV) tB_ok rfl rfl rfl rfl rfl rfl ⟨(syncN D i)[i].1,rfl,rfl⟩ ?_
   conv=>whnf
   refine⟨fun hc=>absurd hc (by simp),fun hc=>?_⟩
   conv=>whnf
   refine⟨_,wrapId ⟨by omega,by omega⟩, ?_⟩
   refine⟨i+1,h,by show D.length - (i+1) < D.length - i; omega, ?_⟩
   have e:syncN D (i+1)=syncN D i:=by
    rw [syncN_succ D h,show (seenF D[i],none)=(syncN D i)[i] from by rw [hg]; exact Prod.ext (by simp [seenF,hq]) (by simp [hq]),List.set_getElem_self]
   dsimp only
   rw [e]
   conv=>whnf
   refine⟨rfl, ?_⟩
   conv=>whnf
   repeat' (first | exact (aRow_ren rfl) | exact trivial | exact rfl | refine And.intro ?_ ?_ | ((conv=>whnf); first | exact (aRow_ren rfl) | exact trivial | exact rfl | refine And.intro ?_ ?_ | omega))
  | some q =>
   refine loadRow_step tB_ok (syncN D i)[i].1 (.ghost 2 i) rfl rfl rfl rfl rfl rfl rfl (rows_some h2 (by rw [hg]; exact hq)) ?_
   conv=>whnf
   refine allocRow_step tB_ok rfl rfl rfl ?_
   conv=>whnf
   refine storeVar_step (kp:=2) tB_ok zSct (syncN D i)[i].1 i rfl rfl rfl rfl rfl rfl ?_
   conv=>whnf
   refine loadPend_step (s:=(syncN D i)[i].1) (q:=q) tB_ok rfl rfl rfl rfl rfl rfl ⟨((syncN D i)[i].1,some i),rfl,rfl⟩ rfl (pnd_some h hq) ?_
   conv=>whnf
   refine⟨fun hc=>?_,fun hc=>absurd hc (by simp)⟩
   conv=>whnf
   refine loadPend_step (s:=(syncN D i)[i].1) (q:=q) tB_ok rfl rfl rfl rfl rfl rfl ⟨((syncN D i)[i].1,some i),rfl,rfl⟩ rfl (pnd_some h hq) ?_
   conv=>whnf
   refine loadPend_step (s:=(syncN D i)[i].1) (q:=q) tB_ok rfl rfl rfl rfl rfl rfl ⟨((syncN D i)[i].1,some i),rfl,rfl⟩ rfl (pnd_some h hq) ?_
   conv=>whnf
   refine⟨0,by decide, ?_⟩
   conv=>whnf
   refine⟨0,rfl,by decide, ?_⟩
   conv=>whnf
   refine loadS_step (s:=q) tB_ok rfl rfl rfl rfl rfl rfl rfl ?_
   conv=>whnf
   refine buildRow_step tB_ok q rfl rfl rfl rfl rfl rfl rfl rfl ?_
   conv=>whnf
   refine⟨i,rfl,h, ?_⟩
   conv=>whnf
   have hri:i < (rowsF (syncN D i)).length:=by omega
   have hrx:(rowsF (syncN D i))[i]'hri=(D[i].1,some i):=by
    have:=@rowsF_get (syncN D i) i
    rw [List.getElem?_eq_getElem hri,List.getElem?_eq_getElem h2,hg] at this
    rw [Option.some.inj this]
    show (D[i].1,D[i].2.map fun _=>i)=_
    rw [hq]; rfl
   refine storeRow_step (kp:=2) (b:=none) tB_ok (aRow 2 (rowsF (syncN D i))) (D[i].1) q (.ghost 2 i) rfl rfl rfl rfl rfl rfl rfl hri (by show bytesC ((rowsF (syncN D i))[i]'hri).1.l ++ [pnd 2 ((rowsF (syncN D i))[i]'hri).2]=_; rw [hrx]; rfl) (q,none) rfl ?_
   have e2:(aRow 2 (rowsF (syncN D i))).setXs ((rowsF (syncN D i)).set i (q,none))=aRow 2 (rowsF (syncN D (i+1))):=by
    show aRow 2 ((rowsF (syncN D i)).set i (q,none))=_
    rw [hst,show seenF D[i]=q from by simp [seenF,hq]]
   conv=>whnf
   refine⟨_,wrapId ⟨by omega,by omega⟩, ?_⟩
   refine⟨i+1,h,by show D.length - (i+1) < D.length - i; omega, ?_⟩
   dsimp only
   conv=>whnf
   refine⟨rfl, ?_⟩
   conv=>whnf
   repeat' (first | exact (e2.trans (aRow_ren rfl)) | exact trivial | exact rfl | refine And.intro ?_ ?_ | ((conv=>whnf); first | exact (e2.trans (aRow_ren rfl)) | exact trivial | exact rfl | refine And.intro ?_ ?_ | omega))
 ·have hie:i=D.length:=by simp at hc; omega
  subst hie
  rw [show syncN D D.length=syncF D from by simp only [syncN,List.drop_length,List.append_nil]; exact List.take_of_length_le (by rw [syncF_length]; exact Nat.le_refl _)]
  conv=>whnf
  repeat' (first | exact (aRow_ren rfl) | exact trivial | exact rfl | refine And.intro ?_ ?_ | ((conv=>whnf); first | exact (aRow_ren rfl) | exact trivial | exact rfl | refine And.intro ?_ ?_ | omega))

theorem xsync_t (D:Dk) (hl:D.length≤100000):Triple Tryz.prog 127 [.c (.p 0 0 0 0)] [(0,true,dskC 1 D.length),(1,true,dkR 2 D),(2,true,dkB D)] 3 (iv .i64 0)
  [(0,true,dskC 1 D.length),(1,true,dkR 2 (syncF D)),(2,true,dkB (syncF D))] :=
 Triple.carry (b':=pendB (pndF (syncF D))) (xsync0_t D hl) (by simp [keys]) rfl (by decide) (by simp [keys]) (by simp) (fun r w _ i s hi=>by
  have hi:((syncF D).map (·.2))[i]? = some (some s):=hi
  rw [List.getElem?_map] at hi
  simp only [syncF,List.getElem?_map] at hi
  cases h:D[i]? <;> rw [h] at hi <;> simp at hi)

end Go.Proofs

namespace Go
namespace Sx

variable {cx:Cx} {B:Tabs} {o:Oper} {e:Env} {H:Heap} {nx:Nat} {K:Eff → Prop}

abbrev rowV (s:Sct):Value:=.agg (bytesV s.l ++ [nilV]).toArray

theorem rowV_rel {ρ:Asg} {s:Sct} {v:Value} (h:(SV.c (.v (rowV s))).rel ρ v):(SV.pk (bytesV s.l) [.v nilV]).rel ρ v:=by
  simp only [SV.rel,SC.rel] at h
  subst h
  exact⟨[nilV],rfl,rfl,trivial⟩

theorem storeRowV_step (hB:TabsOK cx.P B) {t:TypeId} {ti:TI} {x y:Operand} {k i:Nat} (A:Arr) (s s':Sct) (c:SC) (ho:o.op=.store t x y) (ht:lookT B.T t=some ti) (hn:ti.size=129)
    (hx:ev e x=.c (.p k i 129 0)) (hy:ev e y=.c (.v (rowV s'))) (hl:look H k=some (true, .arr A)) (hA:A.sz=129) (hi:i < A.xs.length) (he:A.enc (A.xs[i]'hi)=bytesC s.l ++ [c]) (x':A.α) (hx':A.enc x'=bytesC s'.l ++ [.v nilV])
    (hK:K ⟨.c .junk,[k],[(k,true, .arr (A.setXs (A.xs.set i x')))],[]⟩):∃ f,CallOK cx o e H nx f∧K f :=
  storeArr_step hB A ho ht hx hl hA.symm (new:=bytesC s'.l ++ [.v nilV]) (by rw [List.length_append,bytesC_length,s'.h,hn]; rfl) (by omega) (by rw [List.length_append,bytesC_length,s'.h,hA]; exact Nat.le_refl _)
    (fun ρ v hv=>by rw [hy] at hv; exact pk_cells (fun u hu=>pnd_atom (kp:=0) (b:=none) hu) (rowV_rel hv))
    hi x' (by rw [hx',he,splice_all s.h s'.h]) hK

theorem res_row (s:Sct) :
    (∀ j v,(bytesV s.l ++ [nilV])[j]? = some v → ∃ i' j',i' * (aRowN [s]).sz+j'=j∧(SO.arr (aRowN [s])).cell? i' j'=some (.v v))∧(bytesV s.l ++ [nilV]).length=129:=by
  refine⟨fun j v hv=>⟨0,j,by show 0 * 129+j=j; omega, ?_⟩,by rw [List.length_append,bytesV_length,s.h]; rfl⟩
  rw [arr_cell?]
  show (bytesC s.l ++ [SC.v nilV])[j]? = _
  by_cases hj:j < s.l.length
  · rw [List.getElem?_append_left (by rw [bytesV_length]; exact hj),bytesV_get hj] at hv
    cases hv
    rw [List.getElem?_append_left (by rw [bytesC_length]; exact hj)]
    have:∀ (l:List UInt8) (j:Nat) (h:j < l.length),(bytesC l)[j]? = some (.v (.int .u8 (l[j].toNat:Int))):=by
      intro l
      induction l with
      | nil=>intro j h; cases h
      | cons b l ih =>
        intro j h
        cases j with
        | zero=>rfl
        | succ j=>exact ih j (by simpa using h)
    exact this _ _ hj
  · rw [List.getElem?_append_right (by rw [bytesV_length]; omega),bytesV_length] at hv
    rw [List.getElem?_append_right (by rw [bytesC_length]; omega),bytesC_length]
    cases hk:j - s.l.length with
    | zero=>rw [hk] at hv; cases hv; rfl
    | succ m=>rw [hk] at hv; cases hv

end Sx
end Go

namespace Go.Proofs
open Go.Sx

theorem tmod3x (x:Int):(-2≤x.tmod 3∧x.tmod 3≤2)∧(x.tmod 3 < 0 → x.tmod 3+3=x % 3)∧(¬ x.tmod 3 < 0 → x.tmod 3=x % 3):=by
 have h1:=tmod3 x
 rcases Int.le_total 0 x with h | h
 ·have:x.tmod 3=x % 3:=Int.tmod_eq_emod_of_nonneg h
  omega
 ·have:=Int.tmod_eq_emod (a:=x) (b:=3)
  refine⟨h1.1,fun _=>?_,fun _=>?_⟩ <;> (split at this <;> omega)

theorem torn_step (d q:Sct) (j:Nat) (h:j < 64):(q.l.take j ++ d.l.drop j).set j (q.l[j]'(by rw [q.h]; omega))=q.l.take (j+1) ++ d.l.drop (j+1):=by
 have hq:=q.h
 have hd:=d.h
 have hl:(q.l.take j).length=j:=by rw [List.length_take]; omega
 have e1:q.l.take (j+1)=q.l.take j ++ [q.l[j]'(by omega)]:=take_snoc (by omega)
 have e2:d.l.drop j=(d.l[j]'(by omega)) :: d.l.drop (j+1):=List.drop_eq_getElem_cons (by omega)
 rw [List.set_append_right _ _ (by omega),hl,Nat.sub_self,e1,e2,List.append_assoc]
 rfl



theorem xafter_t (D:Dk) (i:Nat) (d q:Sct) (hq:(pndF D)[i]? = some (some q)) (x:Int) (hx:-9223372036854775808≤x∧x≤9223372036854775807) :
  Triple Tryz.prog 142 [.pk (bytesV d.l) [.ghost 0 i],iv .i64 x] [(0,false,dkB D)] 1 (.c (.v (rowV (keptF d q x)))) []:=by
 obtain ⟨ht1,ht2,ht3⟩:=tmod3x x
 have hgh:∃ y,(aRow 0 [(d,some i)]).xs[0]? = some y∧(aRow 0 [(d,some i)]).enc y=bytesC d.l ++ [.ghost 0 i]:=⟨(d,some i),rfl,rfl⟩
 refine triple_of tB_ok Tryz.func142 rfl Tryz.call142 rfl ?_
 intro ρ w hH
 conv=>whnf
 refine boxRow_step d rfl rfl ?_
 conv=>whnf
 refine allocRow_step tB_ok rfl rfl rfl ?_
 conv=>whnf
 refine loadPend_step (s:=d) (q:=q) tB_ok rfl rfl rfl rfl rfl rfl hgh rfl hq ?_
 conv=>whnf
 refine⟨3,rfl, ?_⟩
 conv=>whnf
 refine⟨by decide,x.tmod 3,rfl, ?_⟩
 conv=>whnf
 refine⟨fun hc=>?_,fun hc=>?_⟩
 ·have hneg:x.tmod 3 < 0:=of_decide_eq_true hc
  have hr:x.tmod 3+1+2=x % 3:=by have:=ht2 hneg; omega
  conv=>whnf
  refine⟨_,wrapId ⟨by omega,by omega⟩, ?_⟩
  conv=>whnf
  refine⟨_,wrapId ⟨by omega,by omega⟩, ?_⟩
  conv=>whnf
  refine⟨fun hc=>?_,fun hc=>?_⟩
  ·have hx0:x % 3=0:=by
    have hc:((x.tmod 3+1+2:Int) == 0)=true:=hc
    rw [← hr]; simpa using hc
   rw [show keptF d q x=d from by simp [keptF,hx0]]
   conv=>whnf
   refine loadSec_step tB_ok d (.ghost 0 i) rfl rfl rfl rfl rfl rfl rfl hgh ?_
   conv=>whnf
   refine buildRow_step tB_ok d rfl rfl rfl rfl rfl rfl rfl rfl ?_
   conv=>whnf
   refine storeRow_step (kp:=0) (b:=none) tB_ok (aRowN [zSct]) zSct d (.v nilV) rfl rfl rfl rfl rfl rfl rfl (Nat.zero_lt_one) rfl d rfl ?_
   conv=>whnf
   refine⟨bytesV (d).l ++ [nilV],⟨(res_row d).1,(res_row d).2,rfl⟩, ?_⟩
   conv=>whnf
   repeat'(first|exact trivial|exact rfl|refine And.intro ?_ ?_|((conv=>whnf);first|exact trivial|exact rfl|refine And.intro ?_ ?_|omega))
  have hx0:¬ x % 3=0:=by
   have hc:((x.tmod 3+1+2:Int) == 0)=false:=hc
   rw [← hr]; simpa using hc
  conv=>whnf
  refine⟨fun hc=>?_,fun hc=>?_⟩
  ·have hx1:x % 3=1:=by
    have hc:decide ((x.tmod 3+1+2:Int)≤1)=true:=hc
    have:=of_decide_eq_true hc
    omega
   rw [show keptF d q x=q from by simp [keptF,hx0,hx1]]
   conv=>whnf
   refine loadPend_step (s:=d) (q:=q) tB_ok rfl rfl rfl rfl rfl rfl hgh rfl hq ?_
   conv=>whnf
   refine⟨0,by (have h2:(x.tmod 3+1+2:Int)=1:=hr.trans hx1); show IntKind.i64.wrap ((x.tmod 3+1+2:Int) - 1)=0; rw [h2]; rfl, ?_⟩
   conv=>whnf
   refine⟨0,rfl,by decide, ?_⟩
   conv=>whnf
   refine loadS_step (s:=q) tB_ok rfl rfl rfl rfl rfl rfl rfl ?_
   conv=>whnf
   refine buildRow_step tB_ok q rfl rfl rfl rfl rfl rfl rfl rfl ?_
   conv=>whnf
   refine storeRow_step (kp:=0) (b:=none) tB_ok (aRowN [zSct]) zSct q (.v nilV) rfl rfl rfl rfl rfl rfl rfl (Nat.zero_lt_one) rfl q rfl ?_
   conv=>whnf
   refine⟨bytesV (q).l ++ [nilV],⟨(res_row q).1,(res_row q).2,rfl⟩, ?_⟩
   conv=>whnf
   repeat'(first|exact trivial|exact rfl|refine And.intro ?_ ?_|((conv=>whnf);first|exact trivial|exact rfl|refine And.intro ?_ ?_|omega))
  have hx2:¬ x % 3=1:=by
   have hc:decide ((x.tmod 3+1+2:Int)≤1)=false:=hc
   have:=of_decide_eq_false hc
   omega
  rw [show keptF d q x=tornF d q from by simp [keptF,hx0,hx2]]
  conv=>whnf
  refine loadSec_step tB_ok d (.ghost 0 i) rfl rfl rfl rfl rfl rfl rfl hgh ?_
  conv=>whnf
  refine allocA_step tB_ok 128 rfl rfl rfl ?_
  conv=>whnf
  refine storeA_step (l':=d.l) tB_ok rfl rfl rfl rfl rfl (by simp) (by rw [d.h]; simp) (by decide) ?_
  conv=>whnf
  refine⟨fun hc=>absurd hc (by simp),fun hc=>?_⟩
  conv=>whnf
  refine loop_step tB_ok (G:=Nat) 0 [] (fun i=>[(8,iv .i64 i)]) (fun i=>[(4,true, .arr (aU8 (some 128) (q.l.take i ++ d.l.drop i)))]) (fun i=>i≤64) (fun i=>64 - i) ?_
  conv=>whnf
  refine⟨⟨0,Nat.zero_le _, ?_⟩, ?_⟩
  ·conv=>whnf
   repeat'(first|exact trivial|exact rfl|refine And.intro ?_ ?_|((conv=>whnf);first|exact trivial|exact rfl|refine And.intro ?_ ?_|omega))
  intro j hj ρ1 t1 hρ1
  have hj:j≤64:=hj
  conv=>whnf
  refine⟨fun hc=>?_,fun hc=>?_⟩
  rotate_left
  ·have hje:j=64:=by
    have:=of_decide_eq_false hc
    omega
   subst hje
   have htl:q.l.take 64 ++ d.l.drop 64=(tornF d q).l:=rfl
   rw [htl]
   have hth:=(tornF d q).h
   conv=>whnf
   refine loadA_step (l:=(tornF d q).l) tB_ok rfl rfl rfl rfl rfl hth.symm ?_
   conv=>whnf
   refine buildRow_step tB_ok (tornF d q) rfl rfl rfl rfl rfl rfl rfl rfl ?_
   conv=>whnf
   refine storeRow_step (kp:=0) (b:=none) tB_ok (aRowN [zSct]) zSct (tornF d q) (.v nilV) rfl rfl rfl rfl rfl rfl rfl (Nat.zero_lt_one) rfl (tornF d q) rfl ?_
   conv=>whnf
   refine⟨bytesV ((tornF d q)).l ++ [nilV],⟨(res_row (tornF d q)).1,(res_row (tornF d q)).2,rfl⟩, ?_⟩
   conv=>whnf
   repeat'(first|exact trivial|exact rfl|refine And.intro ?_ ?_|((conv=>whnf);first|exact trivial|exact rfl|refine And.intro ?_ ?_|omega))
  have h:j < 64:=by
   have:=of_decide_eq_true hc
   omega
  have hst:=torn_step d q j h
  have hlt:(q.l.take j ++ d.l.drop j).length=128:=by
   rw [List.length_append,List.length_take,List.length_drop,q.h,d.h]
   omega
  generalize q.l.take j ++ d.l.drop j=P at hst hlt ⊢
  conv=>whnf
  refine loadPend_step (s:=d) (q:=q) tB_ok rfl rfl rfl rfl rfl rfl hgh rfl hq ?_
  conv=>whnf
  refine⟨0,by decide, ?_⟩
  conv=>whnf
  refine⟨0,rfl,by decide, ?_⟩
  conv=>whnf
  refine iaAlias_step (s:=q) tB_ok rfl rfl rfl rfl rfl rfl rfl j rfl (by omega) ?_
  conv=>whnf
  refine⟨by show j < q.l.length; rw [q.h]; omega, ?_⟩
  conv=>whnf
  refine iaA_step tB_ok rfl rfl rfl rfl rfl rfl j rfl (by omega) ?_
  conv=>whnf
  refine⟨by show j < P.length; omega,q.l[j]'(by rw [q.h]; omega),rfl, ?_⟩
  conv=>whnf
  refine⟨_,wrapId ⟨by omega,by omega⟩, ?_⟩
  refine⟨j+1,h,by show 64 - (j+1) < 64 - j; omega, ?_⟩
  dsimp only
  rw [← hst]
  conv=>whnf
  refine⟨rfl, ?_⟩
  conv=>whnf
  repeat'(first|exact trivial|exact rfl|refine And.intro ?_ ?_|((conv=>whnf);first|exact trivial|exact rfl|refine And.intro ?_ ?_|omega))
 ·have hneg:¬ x.tmod 3 < 0:=of_decide_eq_false hc
  have hr:x.tmod 3=x % 3:=ht3 hneg
  conv=>whnf
  refine⟨fun hc=>?_,fun hc=>?_⟩
  ·have hx0:x % 3=0:=by
    have hc:((x.tmod 3:Int) == 0)=true:=hc
    rw [← hr]; simpa using hc
   rw [show keptF d q x=d from by simp [keptF,hx0]]
   conv=>whnf
   refine loadSec_step tB_ok d (.ghost 0 i) rfl rfl rfl rfl rfl rfl rfl hgh ?_
   conv=>whnf
   refine buildRow_step tB_ok d rfl rfl rfl rfl rfl rfl rfl rfl ?_
   conv=>whnf
   refine storeRow_step (kp:=0) (b:=none) tB_ok (aRowN [zSct]) zSct d (.v nilV) rfl rfl rfl rfl rfl rfl rfl (Nat.zero_lt_one) rfl d rfl ?_
   conv=>whnf
   refine⟨bytesV (d).l ++ [nilV],⟨(res_row d).1,(res_row d).2,rfl⟩, ?_⟩
   conv=>whnf
   repeat'(first|exact trivial|exact rfl|refine And.intro ?_ ?_|((conv=>whnf);first|exact trivial|exact rfl|refine And.intro ?_ ?_|omega))
  have hx0:¬ x % 3=0:=by
   have hc:((x.tmod 3:Int) == 0)=false:=hc
   rw [← hr]; simpa using hc
  conv=>whnf
  refine⟨fun hc=>?_,fun hc=>?_⟩
  ·have hx1:x % 3=1:=by
    have hc:decide ((x.tmod 3:Int)≤1)=true:=hc
    have:=of_decide_eq_true hc
    omega
   rw [show keptF d q x=q from by simp [keptF,hx0,hx1]]
   conv=>whnf
   refine loadPend_step (s:=d) (q:=q) tB_ok rfl rfl rfl rfl rfl rfl hgh rfl hq ?_
   conv=>whnf
   refine⟨0,by (have h2:(x.tmod 3:Int)=1:=hr.trans hx1); show IntKind.i64.wrap ((x.tmod 3:Int) - 1)=0; rw [h2]; rfl, ?_⟩
   conv=>whnf
   refine⟨0,rfl,by decide, ?_⟩
   conv=>whnf
   refine loadS_step (s:=q) tB_ok rfl rfl rfl rfl rfl rfl rfl ?_
   conv=>whnf
   refine buildRow_step tB_ok q rfl rfl rfl rfl rfl rfl rfl rfl ?_
   conv=>whnf
   refine storeRow_step (kp:=0) (b:=none) tB_ok (aRowN [zSct]) zSct q (.v nilV) rfl rfl rfl rfl rfl rfl rfl (Nat.zero_lt_one) rfl q rfl ?_
   conv=>whnf
   refine⟨bytesV (q).l ++ [nilV],⟨(res_row q).1,(res_row q).2,rfl⟩, ?_⟩
   conv=>whnf
   repeat'(first|exact trivial|exact rfl|refine And.intro ?_ ?_|((conv=>whnf);first|exact trivial|exact rfl|refine And.intro ?_ ?_|omega))
  have hx2:¬ x % 3=1:=by
   have hc:decide ((x.tmod 3:Int)≤1)=false:=hc
   have:=of_decide_eq_false hc
   omega
  rw [show keptF d q x=tornF d q from by simp [keptF,hx0,hx2]]
  conv=>whnf
  refine loadSec_step tB_ok d (.ghost 0 i) rfl rfl rfl rfl rfl rfl rfl hgh ?_
  conv=>whnf
  refine allocA_step tB_ok 128 rfl rfl rfl ?_
  conv=>whnf
  refine storeA_step (l':=d.l) tB_ok rfl rfl rfl rfl rfl (by simp) (by rw [d.h]; simp) (by decide) ?_
  conv=>whnf
  refine⟨fun hc=>absurd hc (by simp),fun hc=>?_⟩
  conv=>whnf
  refine loop_step tB_ok (G:=Nat) 0 [] (fun i=>[(8,iv .i64 i)]) (fun i=>[(4,true, .arr (aU8 (some 128) (q.l.take i ++ d.l.drop i)))]) (fun i=>i≤64) (fun i=>64 - i) ?_
  conv=>whnf
  refine⟨⟨0,Nat.zero_le _, ?_⟩, ?_⟩
  ·conv=>whnf
   repeat'(first|exact trivial|exact rfl|refine And.intro ?_ ?_|((conv=>whnf);first|exact trivial|exact rfl|refine And.intro ?_ ?_|omega))
  intro j hj ρ1 t1 hρ1
  have hj:j≤64:=hj
  conv=>whnf
  refine⟨fun hc=>?_,fun hc=>?_⟩
  rotate_left
  ·have hje:j=64:=by
    have:=of_decide_eq_false hc
    omega
   subst hje
   have htl:q.l.take 64 ++ d.l.drop 64=(tornF d q).l:=rfl
   rw [htl]
   have hth:=(tornF d q).h
   conv=>whnf
   refine loadA_step (l:=(tornF d q).l) tB_ok rfl rfl rfl rfl rfl hth.symm ?_
   conv=>whnf
   refine buildRow_step tB_ok (tornF d q) rfl rfl rfl rfl rfl rfl rfl rfl ?_
   conv=>whnf
   refine storeRow_step (kp:=0) (b:=none) tB_ok (aRowN [zSct]) zSct (tornF d q) (.v nilV) rfl rfl rfl rfl rfl rfl rfl (Nat.zero_lt_one) rfl (tornF d q) rfl ?_
   conv=>whnf
   refine⟨bytesV ((tornF d q)).l ++ [nilV],⟨(res_row (tornF d q)).1,(res_row (tornF d q)).2,rfl⟩, ?_⟩
   conv=>whnf
   repeat'(first|exact trivial|exact rfl|refine And.intro ?_ ?_|((conv=>whnf);first|exact trivial|exact rfl|refine And.intro ?_ ?_|omega))
  have h:j < 64:=by
   have:=of_decide_eq_true hc
   omega
  have hst:=torn_step d q j h
  have hlt:(q.l.take j ++ d.l.drop j).length=128:=by
   rw [List.length_append,List.length_take,List.length_drop,q.h,d.h]
   omega
  generalize q.l.take j ++ d.l.drop j=P at hst hlt ⊢
  conv=>whnf
  refine loadPend_step (s:=d) (q:=q) tB_ok rfl rfl rfl rfl rfl rfl hgh rfl hq ?_
  conv=>whnf
  refine⟨0,by decide, ?_⟩
  conv=>whnf
  refine⟨0,rfl,by decide, ?_⟩
  conv=>whnf
  refine iaAlias_step (s:=q) tB_ok rfl rfl rfl rfl rfl rfl rfl j rfl (by omega) ?_
  conv=>whnf
  refine⟨by show j < q.l.length; rw [q.h]; omega, ?_⟩
  conv=>whnf
  refine iaA_step tB_ok rfl rfl rfl rfl rfl rfl j rfl (by omega) ?_
  conv=>whnf
  refine⟨by show j < P.length; omega,q.l[j]'(by rw [q.h]; omega),rfl, ?_⟩
  conv=>whnf
  refine⟨_,wrapId ⟨by omega,by omega⟩, ?_⟩
  refine⟨j+1,h,by show 64 - (j+1) < 64 - j; omega, ?_⟩
  dsimp only
  rw [← hst]
  conv=>whnf
  refine⟨rfl, ?_⟩
  conv=>whnf
  repeat'(first|exact trivial|exact rfl|refine And.intro ?_ ?_|((conv=>whnf);first|exact trivial|exact rfl|refine And.intro ?_ ?_|omega))

end Go.Proofs

