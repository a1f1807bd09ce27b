/-
  A part of the proof that a law answers true: lemmas of a symbolic walk, plain functions, or contracts of the functions walked (Q7, Q8, Q9, QA, QB). Conditions: none.
-/
import Derived.Test.YtfcdjkeamldkaaaGreatPart19
set_option maxRecDepth 100000
set_option linter.unusedVariables false
set_option linter.unusedSimpArgs false
namespace Go.Proofs
open Go.Sx



theorem xcrash0_t (D:Dk) (keep:List Int) (hl:D.length≤65536) (hk:keep.length≤1000000) (hkb:∀ x ∈ keep,-9223372036854775808≤x∧x≤9223372036854775807):Triple Tryz.prog 84 [.c (.p 0 0 0 0), .c (.s 3 0 keep.length 1)]
  [(0,false,dskC 1 D.length),(1,false,dkR 2 D),(2,false,dkB D),(3,false, .arr (aInt keep))] 4 (.c (.p 5 0 0 0)) [(4,true, .arr (aRowN (crashF keep 0 D))),(5,true,dskC 4 D.length)]:=by
 have hrl:=rowsF_length D
 refine triple_of tB_ok Tryz.func84 rfl Tryz.call84 rfl ?_
 intro ρ w hH
 conv=>whnf
 refine loop_step tB_ok (G:=Nat) 1 [] (fun i=>[(7,iv .i64 i),(6,iv .i64 (cntF (D.take i):Int))]) (fun i=>[(4,true,dskC 5 i),(5,true, .arr (aRowN (cN keep D i)))]) (fun i=>i≤D.length) (fun i=>D.length - i) ?_
 conv=>whnf
 refine⟨⟨0,Nat.zero_le _, ?_⟩, ?_⟩
 ·conv=>whnf
  repeat' (first | exact (aRow_ren rfl) | exact trivial | exact rfl | refine And.intro ?_ ?_ | ((conv=>whnf); first | exact (aRow_ren rfl) | exact trivial | exact rfl | refine And.intro ?_ ?_ | omega))
 intro i hi ρ1 t1 hρ1
 have hi:i≤D.length:=hi
 have hcl:=cN_length keep D i hi
 have hcnt:=cntF_le (D.take i)
 rw [List.length_take] at hcnt
 conv=>whnf
 refine⟨fun hc=>?_,fun hc=>?_⟩
 ·have h:i < D.length:=by simp at hc; omega
  conv=>whnf
  refine⟨i,rfl,h, ?_⟩
  conv=>whnf
  cases hq:D[i].2 with
  | none =>
   obtain ⟨hst,hct⟩:=cN_none keep D h hq
   refine loadRow_step tB_ok D[i].1 (.v nilV) rfl rfl rfl rfl rfl rfl rfl (rows_none h hq) ?_
   conv=>whnf
   refine allocRow_step tB_ok rfl rfl rfl ?_
   conv=>whnf
   refine storeRow_step (kp:=0) (b:=none) tB_ok (aRowN [zSct]) zSct D[i].1 (.v nilV) rfl rfl rfl rfl rfl rfl rfl (Nat.zero_lt_one) rfl D[i].1 rfl ?_
   conv=>whnf
   refine loadNil_step (s:=D[i].1) (u:=nilV) tB_ok rfl rfl rfl rfl rfl rfl ⟨D[i].1,rfl,rfl⟩ ?_
   conv=>whnf
   refine⟨fun hc=>absurd hc (by simp),fun hc=>?_⟩
   conv=>whnf
   refine loadRow_step tB_ok D[i].1 (.v nilV) rfl rfl rfl rfl rfl rfl rfl ⟨D[i].1,rfl,rfl⟩ ?_
   conv=>whnf
   refine bsRow_step tB_ok (D[i].1) rfl rfl rfl rfl rfl ?_
   conv=>whnf
   refine app_step tB_ok (aRowN (cN keep D i)) [D[i].1] (fun x=>allOne_aRowN x _) rfl rfl rfl rfl ?_
   conv=>whnf
   refine⟨⟨rfl,rfl,(by show i≤(cN keep D i).length; omega),Nat.le_refl _,by show (i+1) * 153≤140737488355328; omega⟩, ?_⟩
   conv=>whnf
   refine⟨_,wrapId ⟨by omega,by omega⟩, ?_⟩
   refine⟨i+1,h,by show D.length - (i+1) < D.length - i; omega, ?_⟩
   have e2:(aRowN (cN keep D i)).setXs ((cN keep D i).take i ++ (([D[i].1]:List Sct).drop 0).take 1)=aRowN (cN keep D (i+1)):=by
    show aRowN ((cN keep D i).take i ++ (([D[i].1]:List Sct).drop 0).take 1)=_
    rw [hst,List.take_of_length_le (by omega)]
    rfl
   dsimp only
   rw [hct]
   conv=>whnf
   refine⟨rfl, ?_⟩
   conv=>whnf
   repeat' (first | exact e2 | exact trivial | exact rfl | refine And.intro ?_ ?_ | ((conv=>whnf); first | exact e2 | exact trivial | exact rfl | refine And.intro ?_ ?_ | omega))
  | some q =>
   obtain ⟨hst,hct⟩:=cN_some keep D h hq
   refine loadRow_step tB_ok D[i].1 (.ghost 2 i) rfl rfl rfl rfl rfl rfl rfl (rows_some h hq) ?_
   conv=>whnf
   refine allocRow_step tB_ok rfl rfl rfl ?_
   conv=>whnf
   refine storeVar_step (kp:=2) tB_ok zSct D[i].1 i rfl rfl rfl rfl rfl rfl ?_
   conv=>whnf
   refine loadPend_step (s:=D[i].1) (q:=q) tB_ok rfl rfl rfl rfl rfl rfl ⟨(D[i].1,some i),rfl,rfl⟩ rfl (pnd_some h hq) ?_
   conv=>whnf
   refine⟨fun hc=>?_,fun hc=>absurd hc (by simp)⟩
   generalize hm:cntF (D.take i)=m at hcnt hst hct ⊢
   conv=>whnf
   refine⟨fun hc=>?_,fun hc=>?_⟩
   ·have hkl:0 < keep.length:=by simp at hc; exact List.length_pos_iff.2 (by intro h0; rw [h0] at hc; simp at hc)
    have hml:m % keep.length < keep.length:=Nat.mod_lt _ hkl
    conv=>whnf
    refine⟨by omega,((m % keep.length:Nat):Int),by rw [Int.tmod_eq_emod_of_nonneg (by omega)]; omega, ?_⟩
    conv=>whnf
    refine⟨m % keep.length,rfl,hml, ?_⟩
    conv=>whnf
    have hml2:addN 0 (m % keep.length) < keep.length:=by rw [addN_eq]; omega
    refine⟨hml2, ?_⟩
    have hx:(aInt keep).xs[addN 0 (m % keep.length)]'hml2=keepAt keep m:=by
     show keep[addN 0 (m % keep.length)]'hml2=_
     unfold keepAt
     simp only [addN_eq,Nat.zero_add,List.getD,List.getElem?_eq_getElem hml]; rfl
    have hxb:-9223372036854775808≤keepAt keep m∧keepAt keep m≤9223372036854775807:=by rw [← hx]; exact hkb _ (List.getElem_mem _)
    conv=>whnf
    rw [hx]
    generalize keepAt keep m=x at hst hxb ⊢
    conv=>whnf
    refine⟨_,wrapId ⟨by omega,by omega⟩, ?_⟩
    conv=>whnf
    refine loadRow_step tB_ok D[i].1 (.ghost 2 i) rfl rfl rfl rfl rfl rfl rfl ⟨(D[i].1,some i),rfl,rfl⟩ ?_
    conv=>whnf
    refine call_step (xafter_t D i D[i].1 q (pnd_some h hq) x hxb) rfl rfl ?_
    conv=>whnf
    refine⟨(by repeat' (first | exact (aRow_ren rfl) | exact trivial | exact rfl | refine And.intro ?_ ?_ | ((conv=>whnf); first | exact (aRow_ren rfl) | exact trivial | exact rfl | refine And.intro ?_ ?_ | omega))),(by repeat' (first | exact (aRow_ren rfl) | exact trivial | exact rfl | refine And.intro ?_ ?_ | ((conv=>whnf); first | exact (aRow_ren rfl) | exact trivial | exact rfl | refine And.intro ?_ ?_ | omega))), ?_⟩
    conv=>whnf
    refine storeRowV_step tB_ok (aRow 2 [(D[i].1,some i)]) D[i].1 (keptF D[i].1 q x) (.ghost 2 i) rfl rfl rfl rfl rfl rfl rfl (Nat.zero_lt_one) rfl (keptF D[i].1 q x,none) rfl ?_
    conv=>whnf
    refine loadRow_step tB_ok (keptF D[i].1 q x) (.v nilV) rfl rfl rfl rfl rfl rfl rfl ⟨(keptF D[i].1 q x,none),rfl,rfl⟩ ?_
    conv=>whnf
    refine bsRow_step tB_ok (keptF D[i].1 q x) rfl rfl rfl rfl rfl ?_
    conv=>whnf
    refine app_step tB_ok (aRowN (cN keep D i)) [keptF D[i].1 q x] (fun x=>allOne_aRowN x _) rfl rfl rfl rfl ?_
    conv=>whnf
    refine⟨⟨rfl,rfl,(by show i≤(cN keep D i).length; omega),Nat.le_refl _,by show (i+1) * 153≤140737488355328; omega⟩, ?_⟩
    conv=>whnf
    refine⟨_,wrapId ⟨by omega,by omega⟩, ?_⟩
    refine⟨i+1,h,by show D.length - (i+1) < D.length - i; omega, ?_⟩
    have e2:(aRowN (cN keep D i)).setXs ((cN keep D i).take i ++ (([keptF D[i].1 q x]:List Sct).drop 0).take 1)=aRowN (cN keep D (i+1)):=by
     show aRowN ((cN keep D i).take i ++ (([keptF D[i].1 q x]:List Sct).drop 0).take 1)=_
     rw [hst,List.take_of_length_le (by omega)]
     rfl
    dsimp only
    rw [hct]
    conv=>whnf
    refine⟨rfl, ?_⟩
    conv=>whnf
    repeat' (first | exact e2 | exact trivial | exact rfl | refine And.intro ?_ ?_ | ((conv=>whnf); first | exact e2 | exact trivial | exact rfl | refine And.intro ?_ ?_ | omega))
   ·have hk0:keep=[]:=by
     cases keep with
     | nil=>rfl
     | cons a l=>simp at hc
    have hx:keepAt keep m=0:=by rw [hk0]; rfl
    rw [hx] at hst
    conv=>whnf
    refine⟨_,wrapId ⟨by omega,by omega⟩, ?_⟩
    conv=>whnf
    refine loadRow_step tB_ok D[i].1 (.ghost 2 i) rfl rfl rfl rfl rfl rfl rfl ⟨(D[i].1,some i),rfl,rfl⟩ ?_
    conv=>whnf
    refine call_step (xafter_t D i D[i].1 q (pnd_some h hq) (0:Int) (by decide)) rfl rfl ?_
    conv=>whnf
    refine⟨(by repeat' (first | exact (aRow_ren rfl) | exact trivial | exact rfl | refine And.intro ?_ ?_ | ((conv=>whnf); first | exact (aRow_ren rfl) | exact trivial | exact rfl | refine And.intro ?_ ?_ | omega))),(by repeat' (first | exact (aRow_ren rfl) | exact trivial | exact rfl | refine And.intro ?_ ?_ | ((conv=>whnf); first | exact (aRow_ren rfl) | exact trivial | exact rfl | refine And.intro ?_ ?_ | omega))), ?_⟩
    conv=>whnf
    refine storeRowV_step tB_ok (aRow 2 [(D[i].1,some i)]) D[i].1 (keptF D[i].1 q (0:Int)) (.ghost 2 i) rfl rfl rfl rfl rfl rfl rfl (Nat.zero_lt_one) rfl (keptF D[i].1 q (0:Int),none) rfl ?_
    conv=>whnf
    refine loadRow_step tB_ok (keptF D[i].1 q (0:Int)) (.v nilV) rfl rfl rfl rfl rfl rfl rfl ⟨(keptF D[i].1 q (0:Int),none),rfl,rfl⟩ ?_
    conv=>whnf
    refine bsRow_step tB_ok (keptF D[i].1 q (0:Int)) rfl rfl rfl rfl rfl ?_
    conv=>whnf
    refine app_step tB_ok (aRowN (cN keep D i)) [keptF D[i].1 q (0:Int)] (fun x=>allOne_aRowN x _) rfl rfl rfl rfl ?_
    conv=>whnf
    refine⟨⟨rfl,rfl,(by show i≤(cN keep D i).length; omega),Nat.le_refl _,by show (i+1) * 153≤140737488355328; omega⟩, ?_⟩
    conv=>whnf
    refine⟨_,wrapId ⟨by omega,by omega⟩, ?_⟩
    refine⟨i+1,h,by show D.length - (i+1) < D.length - i; omega, ?_⟩
    have e2:(aRowN (cN keep D i)).setXs ((cN keep D i).take i ++ (([keptF D[i].1 q (0:Int)]:List Sct).drop 0).take 1)=aRowN (cN keep D (i+1)):=by
     show aRowN ((cN keep D i).take i ++ (([keptF D[i].1 q (0:Int)]:List Sct).drop 0).take 1)=_
     rw [hst,List.take_of_length_le (by omega)]
     rfl
    dsimp only
    rw [hct]
    conv=>whnf
    refine⟨rfl, ?_⟩
    conv=>whnf
    repeat' (first | exact e2 | exact trivial | exact rfl | refine And.intro ?_ ?_ | ((conv=>whnf); first | exact e2 | exact trivial | exact rfl | refine And.intro ?_ ?_ | omega))
 ·have hie:i=D.length:=by simp at hc; omega
  subst hie
  rw [show crashF keep 0 D=cN keep D D.length from by unfold cN; rw [List.take_length]]
  conv=>whnf
  repeat' (first | exact (aRow_ren rfl) | exact trivial | exact rfl | refine And.intro ?_ ?_ | ((conv=>whnf); first | exact (aRow_ren rfl) | exact trivial | exact rfl | refine And.intro ?_ ?_ | omega))

theorem xcrash_t (D:Dk) (keep:List Int) (hl:D.length≤65536) (hk:keep.length≤1000000) (hkb:∀ x ∈ keep,-9223372036854775808≤x∧x≤9223372036854775807):Triple Tryz.prog 84 [.c (.p 0 0 0 0), .c (.s 3 0 keep.length 1)]
  [(0,false,dskC 1 D.length),(1,false,dkR 2 D),(2,false,dkB D),(3,false, .arr (aInt keep))] 4 (.c (.p 5 0 0 0)) [(4,true,dkR 6 (crashD keep D)),(6,true,dkB (crashD keep D)),(5,true,dskC 4 (crashD keep D).length)]:=by
 have:=Triple.addBox (kb:=6) (xcrash0_t D keep hl hk hkb) (by decide) (by decide) (fun j own o hj=>by
  rw [look_cons] at hj
  by_cases h:j=5
  ·rw [if_pos h] at hj; simp at hj; obtain ⟨_,rfl⟩:=hj; subst h; exact⟨by decide,rfl⟩
  ·rw [if_neg h] at hj; cases hj) rfl
 rw [← plain_rows,← plain_pnd] at this
 rw [crashD_length]; exact this

end Go.Proofs

namespace Go.Proofs
open Go.Sx

theorem getF_lt (l:List UInt8):∀ n,n≤8 → n≤l.length → (getF (l.take n)).toNat < 2 ^ (8 * n)
 | 0,_,_=>by simp [getF]
 | n+1,hn,hl=>by
  have ih:=getF_lt l n (by omega) (by omega)
  have e0:l.take (n+1)=l.take n ++ [l[n]'(by omega)]:=take_snoc (by omega)
  rw [e0,getF_snoc]
  generalize getF (l.take n)=x at ih ⊢
  have h1:=u8_lt (l[n]'(by omega))
  generalize l[n]'(by omega)=b at h1 ⊢
  have h2:(x <<< UInt64.ofNat 8).toNat=2 ^ 8 * (x.toNat % 2 ^ 56):=by
   rw [UInt64.toNat_shiftLeft]
   have e:(UInt64.ofNat 8).toNat % 64=8:=by decide
   rw [e,Nat.shiftLeft_eq]; omega
  have h3:(x <<< UInt64.ofNat 8 ||| b.toUInt64).toNat=2 ^ 8 * (x.toNat % 2 ^ 56)+b.toNat:=by
   rw [UInt64.toNat_or,h2,UInt8.toNat_toUInt64,← Nat.two_pow_add_eq_or_of_lt (by omega)]
  rw [h3]
  have e:2 ^ (8 * (n+1))=256 * 2 ^ (8 * n):=by rw [show 8 * (n+1)=8+8 * n from by omega,Nat.pow_add]
  rw [e]
  have h4:x.toNat % 2 ^ 56≤x.toNat:=Nat.mod_le _ _
  omega

theorem get4_lt (l:List UInt8) (hl:l.length=128) (a:Nat) (ha:a≤100):(getF (subL l a (a+4))).toNat < 4294967296:=by
 have h1:subL l a (a+4)=(l.drop a).take 4:=by unfold subL; rw [Nat.add_sub_cancel_left]
 rw [h1]
 exact getF_lt (l.drop a) 4 (by decide) (by rw [List.length_drop]; omega)

theorem xsector_t (D:Dk) (i:Nat) (h:i < D.length) (hl:D.length≤65536):Triple Tryz.prog 128 [.c (.p 0 0 0 0),iv .i64 0,iv .i64 i] (dkH D) 3 (arrS (atD D i)) []:=by
 have hr:=xread_t D i h
 rw [atD_eq D h] at hr
 have hal:=atD_len D i
 generalize atD D i=l at hr hal ⊢
 refine triple_of tB_ok Tryz.func128 rfl Tryz.call128 rfl ?_
 intro ρ w hH
 conv=>whnf
 refine allocA_step tB_ok 128 rfl rfl rfl ?_
 conv=>whnf
 refine⟨(i:Int),by rw [Int.zero_add]; exact wrapId ⟨by omega,by omega⟩, ?_⟩
 conv=>whnf
 refine call_step hr rfl rfl ?_
 conv=>whnf
 refine⟨(by repeat' (first | exact (aRow_ren rfl) | exact trivial | exact rfl | refine And.intro ?_ ?_ | ((conv=>whnf); first | exact (aRow_ren rfl) | exact trivial | exact rfl | refine And.intro ?_ ?_ | omega))),(by repeat' (first | exact (aRow_ren rfl) | exact trivial | exact rfl | refine And.intro ?_ ?_ | ((conv=>whnf); first | exact (aRow_ren rfl) | exact trivial | exact rfl | refine And.intro ?_ ?_ | omega))), ?_⟩
 conv=>whnf
 refine allocA_step tB_ok 128 rfl rfl rfl ?_
 conv=>whnf
 refine storeA_step (l':=l) tB_ok rfl rfl rfl rfl rfl (by simp) (by rw [hal]; simp) (by decide) ?_
 conv=>whnf
 refine loadA_step (l:=l) tB_ok rfl rfl rfl rfl rfl hal.symm ?_
 conv=>whnf
 refine storeA_step (l':=l) tB_ok rfl rfl rfl rfl rfl (by simp) (by rw [hal]; simp) (by decide) ?_
 conv=>whnf
 refine⟨bytesV l,⟨(res_bytes hal).1,(by rw [bytesV_length,hal]),rfl⟩, ?_⟩
 conv=>whnf
 repeat'(first|exact trivial|exact rfl|refine And.intro ?_ ?_|((conv=>whnf);first|exact trivial|exact rfl|refine And.intro ?_ ?_|omega))

theorem xpart_t (D:Dk) (h:6≤D.length∧D.length≤65536):Triple Tryz.prog 120 [.c (.p 0 0 0 0),iv .i64 0,iv .i64 D.length] (dkH D) 3 (iv .i64 0) []:=by
 refine triple_of tB_ok Tryz.func120 rfl Tryz.call120 rfl ?_
 intro ρ w hH
 conv=>whnf
 refine⟨fun hc=>?_,fun hc=>?_⟩
 ·exact absurd (of_decide_eq_true hc) (by omega)
 conv=>whnf
 refine⟨fun hc=>absurd hc (by simp),fun hc=>?_⟩
 conv=>whnf
 refine⟨fun hc=>?_,fun hc=>?_⟩
 ·exact absurd (of_decide_eq_true hc) (by omega)
 conv=>whnf
 refine⟨0,by rw [Int.sub_self]; rfl, ?_⟩
 conv=>whnf
 refine⟨fun hc=>absurd hc (by simp),fun hc=>?_⟩
 conv=>whnf
 refine⟨fun hc=>absurd hc (by simp),fun hc=>?_⟩
 conv=>whnf
 repeat' (first | exact (aRow_ren rfl) | exact trivial | exact rfl | refine And.intro ?_ ?_ | ((conv=>whnf); first | exact (aRow_ren rfl) | exact trivial | exact rfl | refine And.intro ?_ ?_ | omega))

def greatF (D:Dk):Nat → Nat
 | 0=>0
 | i+1=>if isBaseF (atD D i) i then max (greatF D i) (readB (atD D i)).gen.toNat else greatF D i

theorem isBase_gen {l:List UInt8} {i:Nat} (h:isBaseF l i=true):(readB l).gen.toNat≤4611686018427387904:=by
 simp only [isBaseF,Bool.and_eq_true,decide_eq_true_eq] at h
 exact h.2.2.1

theorem isBase_first {l:List UInt8} {i:Nat} (h:isBaseF l i=true):1≤(readB l).first.toNat∧(readB l).first.toNat≤4611686018427387904∧(readB l).dropped.toNat≤4611686018427387904:=by
 simp only [isBaseF,Bool.and_eq_true,decide_eq_true_eq] at h
 exact⟨h.2.2.2.2.1,h.2.2.2.2.2.1,h.2.2.2.2.2.2.1⟩

theorem greatF_le (D:Dk):∀ i,greatF D i≤4611686018427387904
 | 0=>by simp [greatF]
 | i+1=>by
  have ih:=greatF_le D i
  simp only [greatF]
  split
  ·rename_i h; have:=isBase_gen h; omega
  ·exact ih

theorem xgreatest_t (D:Dk) (hd:6≤D.length∧D.length≤65536):Triple Tryz.prog 122 [.c (.p 0 0 0 0),iv .i64 0] (dkH D) 3 (iv .i64 (greatF D 2)) []:=by
 refine triple_of tB_ok Tryz.func122 rfl Tryz.call122 rfl ?_
 intro ρ w hH
 conv=>whnf
 refine loop_step tB_ok (G:=Nat × Nat) 0 [] (fun g=>[(6,iv .i64 g.1),(5,iv .i64 g.2)]) (fun _=>[]) (fun g=>g.1≤2∧greatF D g.1=g.2) (fun g=>2 - g.1) ?_
 conv=>whnf
 refine⟨⟨(0,0),⟨Nat.zero_le _,rfl⟩, ?_⟩, ?_⟩
 ·conv=>whnf
  repeat' (first | exact (aRow_ren rfl) | exact trivial | exact rfl | refine And.intro ?_ ?_ | ((conv=>whnf); first | exact (aRow_ren rfl) | exact trivial | exact rfl | refine And.intro ?_ ?_ | omega))
 rintro ⟨i,m⟩ ⟨hi,hm⟩ ρ1 t1 hρ1
 have hi:i≤2:=hi
 have hm:greatF D i=m:=hm
 conv=>whnf
 refine⟨fun hc=>?_,fun hc=>?_⟩
 rotate_left
 ·have hie:i=2:=by have:=of_decide_eq_false hc; omega
  subst hie
  rw [hm]
  conv=>whnf
  repeat' (first | exact (aRow_ren rfl) | exact trivial | exact rfl | refine And.intro ?_ ?_ | ((conv=>whnf); first | exact (aRow_ren rfl) | exact trivial | exact rfl | refine And.intro ?_ ?_ | omega))
 have h:i < 2:=by have:=of_decide_eq_true hc; omega
 have hst:greatF D (i+1)=if isBaseF (atD D i) i then max (greatF D i) (readB (atD D i)).gen.toNat else greatF D i:=rfl
 rw [hm] at hst
 have hse:=xsector_t D i (by omega) hd.2
 have hal:=atD_len D i
 have hml:=greatF_le D i
 generalize atD D i=l at hst hse hal ⊢
 conv=>whnf
 refine call_step hse rfl rfl ?_
 conv=>whnf
 refine⟨(by repeat' (first | exact (aRow_ren rfl) | exact trivial | exact rfl | refine And.intro ?_ ?_ | ((conv=>whnf); first | exact (aRow_ren rfl) | exact trivial | exact rfl | refine And.intro ?_ ?_ | omega))),(by repeat' (first | exact (aRow_ren rfl) | exact trivial | exact rfl | refine And.intro ?_ ?_ | ((conv=>whnf); first | exact (aRow_ren rfl) | exact trivial | exact rfl | refine And.intro ?_ ?_ | omega))), ?_⟩
 conv=>whnf
 refine allocA_step tB_ok 128 rfl rfl rfl ?_
 conv=>whnf
 refine storeA_step (l':=l) tB_ok rfl rfl rfl rfl rfl (by simp) (by rw [hal]; simp) (by decide) ?_
 conv=>whnf
 refine loadA_step (l:=l) tB_ok rfl rfl rfl rfl rfl hal.symm ?_
 conv=>whnf
 refine call_step (xisBase_t l hal i (by omega)) rfl rfl ?_
 conv=>whnf
 refine⟨(by repeat' (first | exact (aRow_ren rfl) | exact trivial | exact rfl | refine And.intro ?_ ?_ | ((conv=>whnf); first | exact (aRow_ren rfl) | exact trivial | exact rfl | refine And.intro ?_ ?_ | omega))),(by repeat' (first | exact (aRow_ren rfl) | exact trivial | exact rfl | refine And.intro ?_ ?_ | ((conv=>whnf); first | exact (aRow_ren rfl) | exact trivial | exact rfl | refine And.intro ?_ ?_ | omega))), ?_⟩
 conv=>whnf
 cases hb:isBaseF l i with
 | false =>
  refine⟨fun hc=>absurd hc (by simp),fun hc=>?_⟩
  rw [hb] at hst
  conv=>whnf
  refine⟨_,wrapId ⟨by omega,by omega⟩, ?_⟩
  refine⟨(i+1,m),⟨h,hst⟩,by show 2 - (i+1) < 2 - i; omega, ?_⟩
  conv=>whnf
  refine⟨rfl, ?_⟩
  conv=>whnf
  repeat' (first | exact (aRow_ren rfl) | exact trivial | exact rfl | refine And.intro ?_ ?_ | ((conv=>whnf); first | exact (aRow_ren rfl) | exact trivial | exact rfl | refine And.intro ?_ ?_ | omega))
 | true =>
  refine⟨fun hc=>?_,fun hc=>absurd hc (by simp)⟩
  rw [hb,if_pos rfl] at hst
  have hgl:=isBase_gen hb
  conv=>whnf
  refine loadA_step (l:=l) tB_ok rfl rfl rfl rfl rfl hal.symm ?_
  conv=>whnf
  refine call_step (xbytes_t l hal 8 8 (by decide)) rfl rfl ?_
  rw [show getF (subL l 8 (8+8))=(readB l).gen from rfl]
  conv=>whnf
  refine⟨?_, ?_, ?_⟩
  iterate 2 · repeat'(first|exact trivial|exact rfl|refine And.intro ?_ ?_|((conv=>whnf);first|exact trivial|exact rfl|refine And.intro ?_ ?_|omega))
  conv=>whnf
  refine⟨((readB l).gen.toNat:Int),wrapId ⟨by omega,by omega⟩, ?_⟩
  have hmx:max (m:Int) ((readB l).gen.toNat:Int)=((max m (readB l).gen.toNat:Nat):Int):=by omega
  conv=>whnf
  dsimp only
  rw [hmx]
  conv=>whnf
  refine⟨_,wrapId ⟨by omega,by omega⟩, ?_⟩
  refine⟨(i+1,max m (readB l).gen.toNat),⟨h,hst⟩,by show 2 - (i+1) < 2 - i; omega, ?_⟩
  conv=>whnf
  refine⟨rfl, ?_⟩
  conv=>whnf
  repeat' (first | exact (aRow_ren rfl) | exact trivial | exact rfl | refine And.intro ?_ ?_ | ((conv=>whnf); first | exact (aRow_ren rfl) | exact trivial | exact rfl | refine And.intro ?_ ?_ | omega))

end Go.Proofs

namespace Go.Proofs
open Go.Sx



theorem xnext_t (D:Dk) (hd:6≤D.length∧D.length≤65536) (m0:Nat) (hs:(survF D D.length).2.2=m0) (hn:m0≤4611686018427387904):Triple Tryz.prog 121 [.c (.p 0 0 0 0),iv .i64 0,iv .i64 D.length] (dkH D) 3 (iv .i64 ((m0+1:Nat):Int)) []:=by
 refine triple_of tB_ok Tryz.func121 rfl Tryz.call121 rfl ?_
 intro ρ w hH
 conv=>whnf
 refine loop_step tB_ok (G:=Nat × Nat) 0 [] (fun g=>[(8,iv .i64 g.1),(7,iv .i64 g.2)]) (fun _=>[]) (fun g=>g.1≤D.length∧(survF D g.1).2.2=g.2) (fun g=>D.length - g.1) ?_
 conv=>whnf
 refine⟨⟨(0,0),⟨Nat.zero_le _,rfl⟩, ?_⟩, ?_⟩
 ·conv=>whnf
  repeat' (first | exact (aRow_ren rfl) | exact trivial | exact rfl | refine And.intro ?_ ?_ | ((conv=>whnf); first | exact (aRow_ren rfl) | exact trivial | exact rfl | refine And.intro ?_ ?_ | omega))
 rintro ⟨i,m⟩ ⟨hi,hm⟩ ρ1 t1 hρ1
 have hi:i≤D.length:=hi
 have hm:(survF D i).2.2=m:=hm
 conv=>whnf
 refine⟨fun hc=>?_,fun hc=>?_⟩
 rotate_left
 ·have hie:i=D.length:=by have:=of_decide_eq_false hc; omega
  have hmm:m=m0:=by rw [← hm,hie,hs]
  subst hmm
  conv=>whnf
  refine⟨((m+1:Nat):Int),by dsimp only; rw [show (m:Int)+1=((m+1:Nat):Int) from by omega]; exact wrapId ⟨by omega,by omega⟩, ?_⟩
  conv=>whnf
  repeat' (first | exact (aRow_ren rfl) | exact trivial | exact rfl | refine And.intro ?_ ?_ | ((conv=>whnf); first | exact (aRow_ren rfl) | exact trivial | exact rfl | refine And.intro ?_ ?_ | omega))
 have h:i < D.length:=by have:=of_decide_eq_true hc; omega
 have hst:(survF D (i+1)).2.2=(survStep (atD D i) i (survF D i)).2.2:=rfl
 have hse:=xsector_t D i (by omega) hd.2
 have hal:=atD_len D i
 generalize atD D i=l at hst hse hal ⊢
 have g8:=get4_lt l hal 8 (by decide)
 have g16:=get4_lt l hal 16 (by decide)
 conv=>whnf
 refine call_step hse rfl rfl ?_
 conv=>whnf
 refine⟨(by repeat' (first | exact (aRow_ren rfl) | exact trivial | exact rfl | refine And.intro ?_ ?_ | ((conv=>whnf); first | exact (aRow_ren rfl) | exact trivial | exact rfl | refine And.intro ?_ ?_ | omega))),(by repeat' (first | exact (aRow_ren rfl) | exact trivial | exact rfl | refine And.intro ?_ ?_ | ((conv=>whnf); first | exact (aRow_ren rfl) | exact trivial | exact rfl | refine And.intro ?_ ?_ | omega))), ?_⟩
 conv=>whnf
 refine allocA_step tB_ok 128 rfl rfl rfl ?_
 conv=>whnf
 refine storeA_step (l':=l) tB_ok rfl rfl rfl rfl rfl (by simp) (by rw [hal]; simp) (by decide) ?_
 conv=>whnf
 by_cases c2:2≤i
 ·have n2:¬ (i:Int) < 2:=by omega
  have p2:(2:Int)≤(i:Int):=by omega
  refine⟨fun hc=>absurd (show (i:Int) < 2 from of_decide_eq_true hc) n2,fun hc=>?_⟩
  conv=>whnf
  refine⟨fun hc=>?_,fun hc=>absurd p2 (show ¬ (2:Int)≤(i:Int) from of_decide_eq_false hc)⟩
  conv=>whnf
  refine loadA_step (l:=l) tB_ok rfl rfl rfl rfl rfl hal.symm ?_
  conv=>whnf
  refine call_step (xisFrame_t l hal) rfl rfl ?_
  conv=>whnf
  refine⟨?_, ?_, ?_⟩
  iterate 2 · repeat'(first|exact trivial|exact rfl|refine And.intro ?_ ?_|((conv=>whnf);first|exact trivial|exact rfl|refine And.intro ?_ ?_|omega))
  conv=>whnf
  cases hsl:sealedF 2 l 22 with
  | true =>
   have hst:(survF D (i+1)).2.2=max m (getF (subL l 8 (8+4))).toNat:=by rw [hst]; simp [survStep,c2,hsl,hm]
   refine⟨fun hc=>?_,fun hc=>absurd hc (by simp)⟩
   conv=>whnf
   refine loadA_step (l:=l) tB_ok rfl rfl rfl rfl rfl hal.symm ?_
   conv=>whnf
   refine call_step (xbytes_t l hal 8 4 (by decide)) rfl rfl ?_
   conv=>whnf
   refine⟨?_, ?_, ?_⟩
   iterate 2 · repeat'(first|exact trivial|exact rfl|refine And.intro ?_ ?_|((conv=>whnf);first|exact trivial|exact rfl|refine And.intro ?_ ?_|omega))
   conv=>whnf
   refine⟨((getF (subL l 8 (8+4))).toNat:Int),wrapId ⟨by omega,by omega⟩, ?_⟩
   have hmx:max (m:Int) ((getF (subL l 8 (8+4))).toNat:Int)=((max m (getF (subL l 8 (8+4))).toNat:Nat):Int):=by omega
   conv=>whnf
   dsimp only
   rw [hmx]
   conv=>whnf
   refine⟨_,wrapId ⟨by omega,by omega⟩, ?_⟩
   refine⟨(i+1,max m (getF (subL l 8 (8+4))).toNat),⟨h,hst⟩,by show D.length - (i+1) < D.length - i; omega, ?_⟩
   conv=>whnf
   refine⟨rfl, ?_⟩
   conv=>whnf
   repeat' (first | exact (aRow_ren rfl) | exact trivial | exact rfl | refine And.intro ?_ ?_ | ((conv=>whnf); first | exact (aRow_ren rfl) | exact trivial | exact rfl | refine And.intro ?_ ?_ | omega))
  | false =>
   have hst:(survF D (i+1)).2.2=m:=by rw [hst]; simp [survStep,c2,hsl,hm]
   refine⟨fun hc=>absurd hc (by simp),fun hc=>?_⟩
   conv=>whnf
   refine⟨_,wrapId ⟨by omega,by omega⟩, ?_⟩
   refine⟨(i+1,m),⟨h,hst⟩,by show D.length - (i+1) < D.length - i; omega, ?_⟩
   conv=>whnf
   refine⟨rfl, ?_⟩
   conv=>whnf
   repeat' (first | exact (aRow_ren rfl) | exact trivial | exact rfl | refine And.intro ?_ ?_ | ((conv=>whnf); first | exact (aRow_ren rfl) | exact trivial | exact rfl | refine And.intro ?_ ?_ | omega))
 ·have n2:(i:Int) < 2:=by omega
  have p2:¬ (2:Int)≤(i:Int):=by omega
  refine⟨fun hc=>?_,fun hc=>absurd n2 (show ¬ (i:Int) < 2 from of_decide_eq_false hc)⟩
  conv=>whnf
  refine loadA_step (l:=l) tB_ok rfl rfl rfl rfl rfl hal.symm ?_
  conv=>whnf
  refine call_step (xisBase_t l hal i (by omega)) rfl rfl ?_
  conv=>whnf
  refine⟨?_, ?_, ?_⟩
  iterate 2 · repeat'(first|exact trivial|exact rfl|refine And.intro ?_ ?_|((conv=>whnf);first|exact trivial|exact rfl|refine And.intro ?_ ?_|omega))
  conv=>whnf
  cases hb:isBaseF l i with
  | true =>
   have hst:(survF D (i+1)).2.2=max m (getF (subL l 16 (16+4))).toNat:=by
    rw [hst]; simp only [survStep,if_neg c2,hb,if_pos,ite_true]
    rw [← hm]
    split <;> rfl
   refine⟨fun hc=>?_,fun hc=>absurd hc (by simp)⟩
   conv=>whnf
   refine loadA_step (l:=l) tB_ok rfl rfl rfl rfl rfl hal.symm ?_
   conv=>whnf
   refine call_step (xbytes_t l hal 16 4 (by decide)) rfl rfl ?_
   conv=>whnf
   refine⟨?_, ?_, ?_⟩
   iterate 2 · repeat'(first|exact trivial|exact rfl|refine And.intro ?_ ?_|((conv=>whnf);first|exact trivial|exact rfl|refine And.intro ?_ ?_|omega))
   conv=>whnf
   refine⟨((getF (subL l 16 (16+4))).toNat:Int),wrapId ⟨by omega,by omega⟩, ?_⟩
   have hmx:max (m:Int) ((getF (subL l 16 (16+4))).toNat:Int)=((max m (getF (subL l 16 (16+4))).toNat:Nat):Int):=by omega
   conv=>whnf
   dsimp only
   rw [hmx]
   conv=>whnf
   refine⟨fun hc=>absurd (show (2:Int)≤(i:Int) from of_decide_eq_true hc) p2,fun hc=>?_⟩
   conv=>whnf
   refine⟨_,wrapId ⟨by omega,by omega⟩, ?_⟩
   refine⟨(i+1,max m (getF (subL l 16 (16+4))).toNat),⟨h,hst⟩,by show D.length - (i+1) < D.length - i; omega, ?_⟩
   conv=>whnf
   refine⟨rfl, ?_⟩
   conv=>whnf
   repeat' (first | exact (aRow_ren rfl) | exact trivial | exact rfl | refine And.intro ?_ ?_ | ((conv=>whnf); first | exact (aRow_ren rfl) | exact trivial | exact rfl | refine And.intro ?_ ?_ | omega))
  | false =>
   have hst:(survF D (i+1)).2.2=m:=by rw [hst]; simp [survStep,c2,hb,hm]
   refine⟨fun hc=>absurd hc (by simp),fun hc=>?_⟩
   conv=>whnf
   refine⟨fun hc=>absurd (show (2:Int)≤(i:Int) from of_decide_eq_true hc) p2,fun hc=>?_⟩
   conv=>whnf
   refine⟨_,wrapId ⟨by omega,by omega⟩, ?_⟩
   refine⟨(i+1,m),⟨h,hst⟩,by show D.length - (i+1) < D.length - i; omega, ?_⟩
   conv=>whnf
   refine⟨rfl, ?_⟩
   conv=>whnf
   repeat' (first | exact (aRow_ren rfl) | exact trivial | exact rfl | refine And.intro ?_ ?_ | ((conv=>whnf); first | exact (aRow_ren rfl) | exact trivial | exact rfl | refine And.intro ?_ ?_ | omega))

end Go.Proofs

namespace Go.Proofs
open Go.Sx

theorem uvw (q:Nat) (h:q < 9223372036854775808):IntKind.u64.wrap (q:Int)=((UInt64.ofNat q).toNat:Int):=by
 rw [wrap_u64_nat q (by omega),UInt64.toNat_ofNat_of_lt' (show q < 18446744073709551616 by omega)]

theorem xbase_t (gen sess first gone:Nat) (h:gen≤4611686018427387904∧sess≤4611686018427387904∧first≤4611686018427387904∧gone≤4611686018427387904) (link:List UInt8) (hk:link.length=8) :
  Triple Tryz.prog 126 [iv .i64 gen,iv .i64 sess,iv .i64 first,iv .i64 gone,strV link] [] 0 (arrS (baseSecF ⟨UInt64.ofNat gen,UInt64.ofNat first,UInt64.ofNat gone,UInt64.ofNat sess,link⟩)) []:=by
 obtain ⟨L0,h0⟩:∃ L,L=zero128:=⟨_,rfl⟩
 obtain ⟨L1,h1⟩:∃ L,L=spl L0 0 magicL:=⟨_,rfl⟩
 obtain ⟨L2,h2⟩:∃ L,L=spl L1 8 (setF 8 (UInt64.ofNat gen)):=⟨_,rfl⟩
 obtain ⟨L3,h3⟩:∃ L,L=spl L2 16 (setF 4 (UInt64.ofNat sess)):=⟨_,rfl⟩
 obtain ⟨L4,h4⟩:∃ L,L=spl L3 20 (setF 8 (UInt64.ofNat first)):=⟨_,rfl⟩
 obtain ⟨L5,h5⟩:∃ L,L=spl L4 28 (setF 8 (UInt64.ofNat gone)):=⟨_,rfl⟩
 obtain ⟨L6,h6⟩:∃ L,L=spl L5 36 link:=⟨_,rfl⟩
 have l0:L0.length=128:=by rw [h0]; rfl
 have l1:L1.length=128:=by rw [h1]; exact spl_len l0 (by decide)
 have l2:L2.length=128:=by rw [h2]; exact spl_len l1 (by rw [setF_length]; decide)
 have l3:L3.length=128:=by rw [h3]; exact spl_len l2 (by rw [setF_length]; decide)
 have l4:L4.length=128:=by rw [h4]; exact spl_len l3 (by rw [setF_length]; decide)
 have l5:L5.length=128:=by rw [h5]; exact spl_len l4 (by rw [setF_length]; decide)
 have l6:L6.length=128:=by rw [h6]; exact spl_len l5 (by omega)
 have hb:baseSecF ⟨UInt64.ofNat gen,UInt64.ofNat first,UInt64.ofNat gone,UInt64.ofNat sess,link⟩=signF L6 44 (digestF 1 L6 44):=by rw [h6,h5,h4,h3,h2,h1,h0]; rfl
 have hd:=digestF_length 1 L6 44
 have l7:(signF L6 44 (digestF 1 L6 44)).length=128:=signF_len l6 hd (by decide)
 rw [hb]
 refine triple_of tB_ok Tryz.func126 rfl Tryz.call126 rfl ?_
 intro ρ w hH
 conv=>whnf
 refine allocA_step tB_ok 128 rfl rfl rfl ?_
 conv=>whnf
 refine buildA_step tB_ok rfl rfl rfl rfl ?_
 conv=>whnf
 refine allocA_step tB_ok 128 rfl rfl rfl ?_
 rw [show (List.replicate 128 (0:UInt8))=L0 from h0.symm]
 conv=>whnf
 refine storeA_step (l':=L0) tB_ok rfl rfl rfl rfl rfl l0.symm rfl (by decide) ?_
 conv=>whnf
 refine slA_step (n:=128) (l:=L0) tB_ok rfl rfl rfl rfl rfl rfl ⟨8,rfl,by decide,0,rfl,by decide, ?_⟩
 conv=>whnf
 refine copyS_step (n:=8) (l:=L0) (l':=magicL) tB_ok rfl rfl rfl rfl rfl rfl rfl rfl rfl (by rw [l0]; decide) rfl rfl ?_
 rw [show magicL.take 8=magicL from rfl,← h1]
 conv=>whnf
 refine loadA_step (l:=L1) tB_ok rfl rfl rfl rfl rfl l1.symm ?_
 conv=>whnf
 refine⟨_,uvw gen (by omega), ?_⟩
 conv=>whnf
 refine call_step (xput_t L1 l1 8 8 (by decide) (by decide) (UInt64.ofNat gen)) rfl rfl ?_
 rw [← h2]
 conv=>whnf
 refine⟨?_, ?_, ?_⟩
 iterate 2 · repeat'(first|exact trivial|exact rfl|refine And.intro ?_ ?_|((conv=>whnf);first|exact trivial|exact rfl|refine And.intro ?_ ?_|omega))
 conv=>whnf
 refine storeA_step (l':=L2) tB_ok rfl rfl rfl rfl rfl l1.symm (by rw [l1,l2]) (by decide) ?_
 conv=>whnf
 refine loadA_step (l:=L2) tB_ok rfl rfl rfl rfl rfl l2.symm ?_
 conv=>whnf
 refine⟨_,uvw sess (by omega), ?_⟩
 conv=>whnf
 refine call_step (xput_t L2 l2 16 4 (by decide) (by decide) (UInt64.ofNat sess)) rfl rfl ?_
 rw [← h3]
 conv=>whnf
 refine⟨?_, ?_, ?_⟩
 iterate 2 · repeat'(first|exact trivial|exact rfl|refine And.intro ?_ ?_|((conv=>whnf);first|exact trivial|exact rfl|refine And.intro ?_ ?_|omega))
 conv=>whnf
 refine storeA_step (l':=L3) tB_ok rfl rfl rfl rfl rfl l2.symm (by rw [l2,l3]) (by decide) ?_
 conv=>whnf
 refine loadA_step (l:=L3) tB_ok rfl rfl rfl rfl rfl l3.symm ?_
 conv=>whnf
 refine⟨_,uvw first (by omega), ?_⟩
 conv=>whnf
 refine call_step (xput_t L3 l3 20 8 (by decide) (by decide) (UInt64.ofNat first)) rfl rfl ?_
 rw [← h4]
 conv=>whnf
 refine⟨?_, ?_, ?_⟩
 iterate 2 · repeat'(first|exact trivial|exact rfl|refine And.intro ?_ ?_|((conv=>whnf);first|exact trivial|exact rfl|refine And.intro ?_ ?_|omega))
 conv=>whnf
 refine storeA_step (l':=L4) tB_ok rfl rfl rfl rfl rfl l3.symm (by rw [l3,l4]) (by decide) ?_
 conv=>whnf
 refine loadA_step (l:=L4) tB_ok rfl rfl rfl rfl rfl l4.symm ?_
 conv=>whnf
 refine⟨_,uvw gone (by omega), ?_⟩
 conv=>whnf
 refine call_step (xput_t L4 l4 28 8 (by decide) (by decide) (UInt64.ofNat gone)) rfl rfl ?_
 rw [← h5]
 conv=>whnf
 refine⟨?_, ?_, ?_⟩
 iterate 2 · repeat'(first|exact trivial|exact rfl|refine And.intro ?_ ?_|((conv=>whnf);first|exact trivial|exact rfl|refine And.intro ?_ ?_|omega))
 conv=>whnf
 refine storeA_step (l':=L5) tB_ok rfl rfl rfl rfl rfl l4.symm (by rw [l4,l5]) (by decide) ?_
 conv=>whnf
 refine slA_step (n:=128) (l:=L5) tB_ok rfl rfl rfl rfl rfl rfl ⟨44,rfl,by decide,36,rfl,by decide, ?_⟩
 conv=>whnf
 refine copyS_step (n:=8) (l:=L5) (l':=link) tB_ok rfl rfl rfl rfl rfl rfl rfl rfl rfl (by rw [l5]; decide) rfl (by rw [hk]; rfl) ?_
 rw [show link.take 8=link from List.take_of_length_le (by omega),← h6]
 conv=>whnf
 refine loadA_step (l:=L6) tB_ok rfl rfl rfl rfl rfl l6.symm ?_
 conv=>whnf
 refine loadA_step (l:=L6) tB_ok rfl rfl rfl rfl rfl l6.symm ?_
 conv=>whnf
 refine call_step (xbaseSum_t L6 l6) rfl rfl ?_
 generalize digestF 1 L6 44=d at hd l7 ⊢
 conv=>whnf
 refine⟨?_, ?_, ?_⟩
 iterate 2 · repeat'(first|exact trivial|exact rfl|refine And.intro ?_ ?_|((conv=>whnf);first|exact trivial|exact rfl|refine And.intro ?_ ?_|omega))
 conv=>whnf
 refine call_step (xsign_t L6 l6 44 (by decide) d hd) rfl rfl ?_
 generalize signF L6 44 d=L at l7 ⊢
 conv=>whnf
 refine⟨?_, ?_, ?_⟩
 iterate 2 · repeat'(first|exact trivial|exact rfl|refine And.intro ?_ ?_|((conv=>whnf);first|exact trivial|exact rfl|refine And.intro ?_ ?_|omega))
 conv=>whnf
 refine storeA_step (l':=L) tB_ok rfl rfl rfl rfl rfl l0.symm (by rw [l7,l0]) (by decide) ?_
 conv=>whnf
 refine⟨bytesV L,⟨(res_bytes l7).1,(by rw [bytesV_length,l7]),rfl⟩, ?_⟩
 conv=>whnf
 repeat'(first|exact trivial|exact rfl|refine And.intro ?_ ?_|((conv=>whnf);first|exact trivial|exact rfl|refine And.intro ?_ ?_|omega))

theorem xframe_t (q sess:Nat) (h:q≤4611686018427387904∧sess≤4611686018427387904) (flags:UInt8) (link text:List UInt8) (hk:link.length=8) (ht:text.length≤90) :
  Triple Tryz.prog 137 [iv .i64 q,iv .i64 sess,bt flags,strV link,strV text] [] 0 (arrS (frameS q sess flags link text).l) []:=by
 rw [frameS_l q sess flags hk ht]
 obtain ⟨L0,h0⟩:∃ L,L=zero128:=⟨_,rfl⟩
 obtain ⟨L1,h1⟩:∃ L,L=spl L0 0 (setF 8 (UInt64.ofNat q)):=⟨_,rfl⟩
 obtain ⟨L2,h2⟩:∃ L,L=spl L1 8 (setF 4 (UInt64.ofNat sess)):=⟨_,rfl⟩
 obtain ⟨L3,h3⟩:∃ L,L=(L2.set 12 flags).set 13 (UInt8.ofNat text.length):=⟨_,rfl⟩
 obtain ⟨L4,h4⟩:∃ L,L=spl L3 14 link:=⟨_,rfl⟩
 obtain ⟨L5,h5⟩:∃ L,L=spl L4 30 text:=⟨_,rfl⟩
 have l0:L0.length=128:=by rw [h0]; rfl
 have l1:L1.length=128:=by rw [h1]; exact spl_len l0 (by rw [setF_length]; decide)
 have l2:L2.length=128:=by rw [h2]; exact spl_len l1 (by rw [setF_length]; decide)
 have l3:L3.length=128:=by rw [h3,List.length_set,List.length_set,l2]
 have l4:L4.length=128:=by rw [h4]; exact spl_len l3 (by omega)
 have l5:L5.length=128:=by rw [h5]; exact spl_len l4 (by omega)
 have hb:frameF (UInt64.ofNat q) (UInt64.ofNat sess) flags link text=signF L5 22 (digestF 2 L5 22):=by rw [h5,h4,h3,h2,h1,h0]; rfl
 have hd:=digestF_length 2 L5 22
 have l7:(signF L5 22 (digestF 2 L5 22)).length=128:=signF_len l5 hd (by decide)
 rw [hb]
 refine triple_of tB_ok Tryz.func137 rfl Tryz.call137 rfl ?_
 intro ρ w hH
 conv=>whnf
 refine allocA_step tB_ok 128 rfl rfl rfl ?_
 conv=>whnf
 refine buildA_step tB_ok rfl rfl rfl rfl ?_
 conv=>whnf
 refine allocA_step tB_ok 128 rfl rfl rfl ?_
 rw [show (List.replicate 128 (0:UInt8))=L0 from h0.symm]
 conv=>whnf
 refine storeA_step (l':=L0) tB_ok rfl rfl rfl rfl rfl l0.symm rfl (by decide) ?_
 conv=>whnf
 refine loadA_step (l:=L0) tB_ok rfl rfl rfl rfl rfl l0.symm ?_
 conv=>whnf
 refine⟨_,uvw q (by omega), ?_⟩
 conv=>whnf
 refine call_step (xput_t L0 l0 0 8 (by decide) (by decide) (UInt64.ofNat q)) rfl rfl ?_
 rw [← h1]
 conv=>whnf
 refine⟨?_, ?_, ?_⟩
 iterate 2 · repeat'(first|exact trivial|exact rfl|refine And.intro ?_ ?_|((conv=>whnf);first|exact trivial|exact rfl|refine And.intro ?_ ?_|omega))
 conv=>whnf
 refine storeA_step (l':=L1) tB_ok rfl rfl rfl rfl rfl l0.symm (by rw [l0,l1]) (by decide) ?_
 conv=>whnf
 refine loadA_step (l:=L1) tB_ok rfl rfl rfl rfl rfl l1.symm ?_
 conv=>whnf
 refine⟨_,uvw sess (by omega), ?_⟩
 conv=>whnf
 refine call_step (xput_t L1 l1 8 4 (by decide) (by decide) (UInt64.ofNat sess)) rfl rfl ?_
 rw [← h2]
 conv=>whnf
 refine⟨?_, ?_, ?_⟩
 iterate 2 · repeat'(first|exact trivial|exact rfl|refine And.intro ?_ ?_|((conv=>whnf);first|exact trivial|exact rfl|refine And.intro ?_ ?_|omega))
 conv=>whnf
 refine storeA_step (l':=L2) tB_ok rfl rfl rfl rfl rfl l1.symm (by rw [l1,l2]) (by decide) ?_
 conv=>whnf
 refine iaA_step tB_ok rfl rfl rfl rfl rfl rfl 12 rfl (by decide) ?_
 conv=>whnf
 refine⟨by show 12 < L2.length; omega,flags,rfl, ?_⟩
 conv=>whnf
 refine⟨((UInt8.ofNat text.length).toNat:Int),by rw [wrap_u8,UInt8.toNat_ofNat']; show (text.length:Int) % 256=_; omega, ?_⟩
 conv=>whnf
 refine iaA_step tB_ok rfl rfl rfl rfl rfl rfl 13 rfl (by decide) ?_
 conv=>whnf
 refine⟨by show 13 < (L2.set 12 flags).length; rw [List.length_set]; omega,UInt8.ofNat text.length,rfl, ?_⟩
 have e3:((aU8 (some 128) L2).setXs ((aU8 (some 128) L2).xs.set 12 flags)).setXs (((aU8 (some 128) L2).setXs ((aU8 (some 128) L2).xs.set 12 flags)).xs.set 13 (UInt8.ofNat text.length))=aU8 (some 128) L3:=by rw [h3]; rfl
 have e3':=congrArg (fun A=>some (true,SO.arr A)) e3
 conv=>whnf
 refine slA_step (n:=128) (l:=L3) (own:=true) tB_ok rfl rfl rfl rfl rfl e3' ⟨22,rfl,by decide,14,rfl,by decide, ?_⟩
 conv=>whnf
 refine copyS_step (n:=8) (l:=L3) (fx:=some 128) (l':=link) tB_ok rfl rfl rfl rfl rfl rfl rfl rfl e3' (by rw [l3]; decide) rfl (by rw [hk]; rfl) ?_
 rw [show link.take 8=link from List.take_of_length_le (by omega),← h4]
 conv=>whnf
 refine slA_step (n:=128) (l:=L4) tB_ok rfl rfl rfl rfl rfl rfl ⟨120,rfl,by decide,30,rfl,by decide, ?_⟩
 conv=>whnf
 refine copyS_step (n:=text.length) (l:=L4) (l':=text) tB_ok rfl rfl rfl rfl rfl rfl rfl rfl rfl (by rw [l4]; decide) rfl (by show min 90 _=_; omega) ?_
 rw [show text.take text.length=text from List.take_length,← h5]
 conv=>whnf
 refine loadA_step (l:=L5) tB_ok rfl rfl rfl rfl rfl l5.symm ?_
 conv=>whnf
 refine loadA_step (l:=L5) tB_ok rfl rfl rfl rfl rfl l5.symm ?_
 conv=>whnf
 refine call_step (xframeSum_t L5 l5) rfl rfl ?_
 generalize digestF 2 L5 22=d at hd l7 ⊢
 conv=>whnf
 refine⟨?_, ?_, ?_⟩
 iterate 2 · repeat'(first|exact trivial|exact rfl|refine And.intro ?_ ?_|((conv=>whnf);first|exact trivial|exact rfl|refine And.intro ?_ ?_|omega))
 conv=>whnf
 refine call_step (xsign_t L5 l5 22 (by decide) d hd) rfl rfl ?_
 generalize signF L5 22 d=L at l7 ⊢
 conv=>whnf
 refine⟨?_, ?_, ?_⟩
 iterate 2 · repeat'(first|exact trivial|exact rfl|refine And.intro ?_ ?_|((conv=>whnf);first|exact trivial|exact rfl|refine And.intro ?_ ?_|omega))
 conv=>whnf
 refine storeA_step (l':=L) tB_ok rfl rfl rfl rfl rfl l0.symm (by rw [l7,l0]) (by decide) ?_
 conv=>whnf
 refine⟨bytesV L,⟨(res_bytes l7).1,(by rw [bytesV_length,l7]),rfl⟩, ?_⟩
 conv=>whnf
 repeat'(first|exact trivial|exact rfl|refine And.intro ?_ ?_|((conv=>whnf);first|exact trivial|exact rfl|refine And.intro ?_ ?_|omega))

end Go.Proofs

namespace Go.Proofs
open Go.Sx

theorem xformat_t (n:Nat) (hn:6≤n∧n≤65536) (hs:survF (newDk n) n=Sv0) (hg:greatF (newDk n) 2=0) :
  Triple Tryz.prog 74 [.c (.p 0 0 0 0),iv .i64 0,iv .i64 n] [(0,true,dskC 1 (newDk n).length),(1,true,dkR 2 (newDk n)),(2,true,dkB (newDk n))] 3 (iv .i64 0)
   [(0,true,dskC 1 (newDk n).length),(1,true,dkR 3 (fmtD n)),(3,true,dkB (fmtD n))]:=by
 have hl:=newDk_length n
 have hln:(n:Int)=((newDk n).length:Int):=by rw [hl]
 have hnd:6≤(newDk n).length∧(newDk n).length≤65536:=by omega
 have hs':(survF (newDk n) (newDk n).length).2.2=0:=by rw [hl,hs]; rfl
 have hg1:1 < (newDk n).length:=by omega
 have hnone:(newDk n)[1].2=none:=by simp [newDk]
 have hgr:=xgreatest_t (newDk n) hnd
 rw [hg] at hgr
 unfold fmtD
 generalize hD:newDk n=D at hl hln hnd hs' hg1 hnone hgr ⊢
 rw [hln]
 refine triple_of tB_ok Tryz.func74 rfl Tryz.call74 rfl ?_
 intro ρ w hH
 conv=>whnf
 refine call_step (xpart_t D hnd) rfl rfl ?_
 conv=>whnf
 refine⟨(by repeat' (first | exact (aRow_ren rfl) | exact trivial | exact rfl | refine And.intro ?_ ?_ | ((conv=>whnf); first | exact (aRow_ren rfl) | exact trivial | exact rfl | refine And.intro ?_ ?_ | omega))),(by repeat' (first | exact (aRow_ren rfl) | exact trivial | exact rfl | refine And.intro ?_ ?_ | ((conv=>whnf); first | exact (aRow_ren rfl) | exact trivial | exact rfl | refine And.intro ?_ ?_ | omega))), ?_⟩
 conv=>whnf
 refine⟨fun hc=>absurd hc (by simp),fun hc=>?_⟩
 conv=>whnf
 refine call_step (xnext_t D hnd 0 hs' (by decide)) rfl rfl ?_
 conv=>whnf
 refine⟨(by repeat' (first | exact (aRow_ren rfl) | exact trivial | exact rfl | refine And.intro ?_ ?_ | ((conv=>whnf); first | exact (aRow_ren rfl) | exact trivial | exact rfl | refine And.intro ?_ ?_ | omega))),(by repeat' (first | exact (aRow_ren rfl) | exact trivial | exact rfl | refine And.intro ?_ ?_ | ((conv=>whnf); first | exact (aRow_ren rfl) | exact trivial | exact rfl | refine And.intro ?_ ?_ | omega))), ?_⟩
 conv=>whnf
 refine call_step hgr rfl rfl ?_
 conv=>whnf
 refine⟨(by repeat' (first | exact (aRow_ren rfl) | exact trivial | exact rfl | refine And.intro ?_ ?_ | ((conv=>whnf); first | exact (aRow_ren rfl) | exact trivial | exact rfl | refine And.intro ?_ ?_ | omega))),(by repeat' (first | exact (aRow_ren rfl) | exact trivial | exact rfl | refine And.intro ?_ ?_ | ((conv=>whnf); first | exact (aRow_ren rfl) | exact trivial | exact rfl | refine And.intro ?_ ?_ | omega))), ?_⟩
 conv=>whnf
 refine⟨fun hc=>absurd hc (by decide),fun hc=>?_⟩
 conv=>whnf
 refine⟨fun hc=>absurd hc (by decide),fun hc=>?_⟩
 conv=>whnf
 refine⟨(1:Int),rfl, ?_⟩
 conv=>whnf
 refine call_step (xint_t 1 (by decide)) rfl rfl ?_
 conv=>whnf
 refine⟨?_, ?_, ?_⟩
 iterate 2 · repeat'(first|exact trivial|exact rfl|refine And.intro ?_ ?_|((conv=>whnf);first|exact trivial|exact rfl|refine And.intro ?_ ?_|omega))
 conv=>whnf
 refine call_step (xint_t 1 (by decide)) rfl rfl ?_
 conv=>whnf
 refine⟨?_, ?_, ?_⟩
 iterate 2 · repeat'(first|exact trivial|exact rfl|refine And.intro ?_ ?_|((conv=>whnf);first|exact trivial|exact rfl|refine And.intro ?_ ?_|omega))
 conv=>whnf
 refine bs_step tB_ok (aStr [intF 1,intF 1]) rfl rfl ?_
 conv=>whnf
 refine⟨⟨rfl,(by repeat'(first|exact trivial|exact rfl|refine And.intro ?_ ?_|((conv=>whnf);first|exact trivial|exact rfl|refine And.intro ?_ ?_|omega)))⟩, ?_⟩
 conv=>whnf
 have hil:=intF_length 1
 refine call_step (xsum_t 3 (by decide) [intF 1,intF 1] (short2 (by omega) (by omega))) rfl rfl ?_
 conv=>whnf
 refine⟨?_, ?_, ?_⟩
 iterate 2 · repeat'(first|exact trivial|exact rfl|refine And.intro ?_ ?_|((conv=>whnf);first|exact trivial|exact rfl|refine And.intro ?_ ?_|omega))
 have hd:=sumF_length 3 [intF 1,intF 1]
 have hlk:(sumF 3 [intF 1,intF 1]).take 8=link0:=rfl
 generalize sumF 3 [intF 1,intF 1]=L at hd hlk ⊢
 conv=>whnf
 refine allocA_step tB_ok 16 rfl rfl rfl ?_
 conv=>whnf
 refine storeA_step (l':=L) tB_ok rfl rfl rfl rfl rfl (by simp) (by rw [hd]; simp) (by decide) ?_
 conv=>whnf
 refine⟨by decide,(1:Int),by decide, ?_⟩
 conv=>whnf
 refine⟨(1:Int),by decide, ?_⟩
 conv=>whnf
 refine slA_step (n:=16) (l:=L) tB_ok rfl rfl rfl rfl rfl rfl ⟨8,rfl,by decide,0,rfl,by decide, ?_⟩
 conv=>whnf
 refine b2s_step (fx:=some 16) (l:=L) tB_ok rfl rfl rfl rfl rfl rfl (by rw [subN_eq]; omega) ?_
 rw [show (L.drop 0).take (subN 8 0)=link0 from hlk]
 conv=>whnf
 have hbt:=xbase_t 1 1 1 0 (by decide) link0 link0_len
 rw [show baseSecF ⟨UInt64.ofNat 1,UInt64.ofNat 1,UInt64.ofNat 0,UInt64.ofNat 1,link0⟩=base0.l from rfl] at hbt
 refine call_step hbt rfl rfl ?_
 generalize base0=q
 conv=>whnf
 refine⟨?_, ?_, ?_⟩
 iterate 2 · repeat'(first|exact trivial|exact rfl|refine And.intro ?_ ?_|((conv=>whnf);first|exact trivial|exact rfl|refine And.intro ?_ ?_|omega))
 conv=>whnf
 refine call_step (xwrite_t D 1 hg1 hnone q) rfl rfl ?_
 conv=>whnf
 refine⟨(by repeat' (first | exact (aRow_ren rfl) | exact trivial | exact rfl | refine And.intro ?_ ?_ | ((conv=>whnf); first | exact (aRow_ren rfl) | exact trivial | exact rfl | refine And.intro ?_ ?_ | omega))),(by repeat' (first | exact (aRow_ren rfl) | exact trivial | exact rfl | refine And.intro ?_ ?_ | ((conv=>whnf); first | exact (aRow_ren rfl) | exact trivial | exact rfl | refine And.intro ?_ ?_ | omega))), ?_⟩
 conv=>whnf
 rw [← aRow_ren rfl]
 refine⟨fun hc=>absurd hc (by simp),fun hc=>?_⟩
 conv=>whnf
 have hsl:(setD D 1 q).length=D.length:=setD_length _ _ _
 rw [← hsl]
 refine call_step (xsync_t (setD D 1 q) (by omega)) rfl rfl ?_
 conv=>whnf
 refine⟨(by repeat' (first | exact (aRow_ren rfl) | exact trivial | exact rfl | refine And.intro ?_ ?_ | ((conv=>whnf); first | exact (aRow_ren rfl) | exact trivial | exact rfl | refine And.intro ?_ ?_ | omega))),(by repeat' (first | exact (aRow_ren rfl) | exact trivial | exact rfl | refine And.intro ?_ ?_ | ((conv=>whnf); first | exact (aRow_ren rfl) | exact trivial | exact rfl | refine And.intro ?_ ?_ | omega))), ?_⟩
 conv=>whnf
 rw [← aRow_ren rfl]
 repeat' (first | exact (aRow_ren rfl) | exact trivial | exact rfl | refine And.intro ?_ ?_ | ((conv=>whnf); first | exact (aRow_ren rfl) | exact trivial | exact rfl | refine And.intro ?_ ?_ | omega))

structure Xl where
 gen:Nat
 sess:Nat
 first:Nat
 gone:Nat
 link:List UInt8

structure Xk where
 text:List UInt8
 fr:Nat
 link:List UInt8

def aXk (xs:List Xk):Arr:=⟨Xk,3,fun x=>[strC x.text, .v (.int .i64 x.fr),strC x.link],[],fun _=>rfl,(by intro x c hc k hk; simp at hc; rcases hc with rfl | rfl | rfl <;> cases hk),xs,none,none⟩

abbrev xlC (n:Nat) (x:Xl) (kr m:Nat):List SC:=[.p 0 0 0 0, .v (.int .i64 0), .v (.int .i64 n), .v (.int .i64 x.gen), .v (.int .i64 x.sess), .v (.int .i64 x.first), .v (.int .i64 x.gone),strC x.link, .s kr 0 m 3]

abbrev xlH (own:Bool) (n:Nat) (D:Dk) (x:Xl) (ks:List Xk):Heap :=
 [(3,own, .cells (xlC n x 4 ks.length)),(0,own,dskC 1 n),(1,own,dkR 2 D),(2,own,dkB D),(4,own, .arr (aXk ks))]

theorem xslot_t (D:Dk) (n:Nat) (hn:6≤n∧n≤65536) (x:Xl) (ks:List Xk) (q:Nat) (hq:q≤4611686018427387905):Triple Tryz.prog 138 [.c (.p 3 0 0 0),iv .i64 q] (xlH false n D x ks) 5 (iv .i64 ((2+q % (n - 2):Nat):Int)) []:=by
 refine triple_of tB_ok Tryz.func138 rfl Tryz.call138 rfl ?_
 intro ρ w hH
 conv=>whnf
 refine⟨((n - 2:Nat):Int),by rw [show (n:Int) - 2=((n - 2:Nat):Int) from by omega]; exact wrapId ⟨by omega,by omega⟩, ?_⟩
 conv=>whnf
 have hm:=Nat.mod_lt q (show 0 < n - 2 by omega)
 refine⟨by omega,((q % (n - 2):Nat):Int),by rw [show (q:Int).tmod ((n - 2:Nat):Int)=((q % (n - 2):Nat):Int) from (Int.ofNat_tmod q (n - 2)).symm]; try exact wrapId ⟨by omega,by omega⟩, ?_⟩
 conv=>whnf
 refine⟨((2+q % (n - 2):Nat):Int),by rw [show (2:Int)+((q % (n - 2):Nat):Int)=((2+q % (n - 2):Nat):Int) from by omega]; exact wrapId ⟨by omega,by omega⟩, ?_⟩
 conv=>whnf
 repeat' (first | exact (aRow_ren rfl) | exact trivial | exact rfl | refine And.intro ?_ ?_ | ((conv=>whnf); first | exact (aRow_ren rfl) | exact trivial | exact rfl | refine And.intro ?_ ?_ | omega))

theorem xcommit_t (D:Dk) (hd:D.length≤65536) (x:Xl) (ks:List Xk) :
  Triple Tryz.prog 82 [.c (.p 3 0 0 0)] (xlH true D.length D x ks) 5 (iv .i64 0) (xlH true D.length (syncF D) x ks):=by
 refine triple_of tB_ok Tryz.func82 rfl Tryz.call82 rfl ?_
 intro ρ w hH
 conv=>whnf
 refine call_step (xsync_t D (by omega)) rfl rfl ?_
 conv=>whnf
 refine⟨(by repeat' (first | exact (aRow_ren rfl) | exact trivial | exact rfl | refine And.intro ?_ ?_ | ((conv=>whnf); first | exact (aRow_ren rfl) | exact trivial | exact rfl | refine And.intro ?_ ?_ | omega))),(by repeat' (first | exact (aRow_ren rfl) | exact trivial | exact rfl | refine And.intro ?_ ?_ | ((conv=>whnf); first | exact (aRow_ren rfl) | exact trivial | exact rfl | refine And.intro ?_ ?_ | omega))), ?_⟩
 conv=>whnf
 rw [← aRow_ren rfl]
 repeat' (first | exact (aRow_ren rfl) | exact trivial | exact rfl | refine And.intro ?_ ?_ | ((conv=>whnf); first | exact (aRow_ren rfl) | exact trivial | exact rfl | refine And.intro ?_ ?_ | omega))

def framesF (ks:List Xk) (i:Nat):Nat:=((ks.take i).map (·.fr)).foldl (·+·) 0

theorem framesF_succ (ks:List Xk) {i:Nat} (h:i < ks.length):framesF ks (i+1)=framesF ks i+ks[i].fr:=by
 unfold framesF
 rw [take_snoc h,List.map_append,List.foldl_append]; rfl

theorem xk_at {ks:List Xk} {i:Nat} (h:i < ks.length):∀ hz,(aXk ks).xs[addN 0 i]'hz=ks[i]:=fun hz=>by
 have e:addN 0 i=i:=by rw [addN_eq]; omega
 show ks[addN 0 i]'hz=ks[i]
 congr 1

theorem xframes_t (D:Dk) (n:Nat) (x:Xl) (ks:List Xk) (hb:∀ i,i≤ks.length → framesF ks i≤1000000) (hk:ks.length≤100000):Triple Tryz.prog 135 [.c (.p 3 0 0 0),iv .i64 ks.length] (xlH false n D x ks) 5 (iv .i64 (framesF ks ks.length)) []:=by
 refine triple_of tB_ok Tryz.func135 rfl Tryz.call135 rfl ?_
 intro ρ w hH
 conv=>whnf
 refine loop_step tB_ok (G:=Nat) 0 [] (fun i=>[(6,iv .i64 i),(5,iv .i64 (framesF ks i))]) (fun _=>[]) (fun i=>i≤ks.length) (fun i=>ks.length - i) ?_
 conv=>whnf
 refine⟨⟨0,Nat.zero_le _, ?_⟩, ?_⟩
 ·conv=>whnf
  repeat' (first | exact (aRow_ren rfl) | exact trivial | exact rfl | refine And.intro ?_ ?_ | ((conv=>whnf); first | exact (aRow_ren rfl) | exact trivial | exact rfl | refine And.intro ?_ ?_ | omega))
 intro i hi ρ1 t1 hρ1
 have hi:i≤ks.length:=hi
 conv=>whnf
 refine⟨fun hc=>?_,fun hc=>?_⟩
 ·have h:i < ks.length:=by have:=of_decide_eq_true hc; omega
  have hst:=framesF_succ ks h
  have hb1:=hb (i+1) h
  rw [hst] at hb1
  have hx:=xk_at h
  generalize framesF ks i=f at hst hb1 ⊢
  conv=>whnf
  refine⟨i,rfl,h, ?_⟩
  conv=>whnf
  refine⟨by show addN 0 i < ks.length; rw [addN_eq]; omega, ?_⟩
  rw [hx]
  conv=>whnf
  refine⟨((f+ks[i].fr:Nat):Int),by show IntKind.i64.wrap ((f:Int)+(ks[i].fr:Int))=_; rw [show (f:Int)+(ks[i].fr:Int)=((f+ks[i].fr:Nat):Int) from by omega]; exact wrapId ⟨by omega,by omega⟩, ?_⟩
  conv=>whnf
  refine⟨_,wrapId ⟨by omega,by omega⟩, ?_⟩
  refine⟨i+1,h,by show ks.length - (i+1) < ks.length - i; omega, ?_⟩
  dsimp only
  rw [hst]
  conv=>whnf
  refine⟨rfl, ?_⟩
  conv=>whnf
  repeat' (first | exact (aRow_ren rfl) | exact trivial | exact rfl | refine And.intro ?_ ?_ | ((conv=>whnf); first | exact (aRow_ren rfl) | exact trivial | exact rfl | refine And.intro ?_ ?_ | omega))
 ·have hie:i=ks.length:=by have:=of_decide_eq_false hc; omega
  subst hie
  conv=>whnf
  repeat' (first | exact (aRow_ren rfl) | exact trivial | exact rfl | refine And.intro ?_ ?_ | ((conv=>whnf); first | exact (aRow_ren rfl) | exact trivial | exact rfl | refine And.intro ?_ ?_ | omega))

theorem xroom_t (D:Dk) (n:Nat) (hn:6≤n∧n≤65536) (x:Xl) (ks:List Xk) (hb:∀ i,i≤ks.length → framesF ks i≤1000000) (hk:ks.length≤100000):Triple Tryz.prog 134 [.c (.p 3 0 0 0)] (xlH false n D x ks) 5 (iv .i64 ((n:Int) - 2 - (framesF ks ks.length:Nat))) []:=by
 have hb1:=hb ks.length (Nat.le_refl _)
 refine triple_of tB_ok Tryz.func134 rfl Tryz.call134 rfl ?_
 intro ρ w hH
 conv=>whnf
 refine⟨(n:Int) - 2,wrapId ⟨by omega,by omega⟩, ?_⟩
 conv=>whnf
 refine call_step (xframes_t D n x ks hb hk) rfl rfl ?_
 conv=>whnf
 refine⟨(by repeat' (first | exact (aRow_ren rfl) | exact trivial | exact rfl | refine And.intro ?_ ?_ | ((conv=>whnf); first | exact (aRow_ren rfl) | exact trivial | exact rfl | refine And.intro ?_ ?_ | omega))),(by repeat' (first | exact (aRow_ren rfl) | exact trivial | exact rfl | refine And.intro ?_ ?_ | ((conv=>whnf); first | exact (aRow_ren rfl) | exact trivial | exact rfl | refine And.intro ?_ ?_ | omega))), ?_⟩
 conv=>whnf
 refine⟨(n:Int) - 2 - (framesF ks ks.length:Nat),wrapId ⟨by omega,by omega⟩, ?_⟩
 conv=>whnf
 repeat' (first | exact (aRow_ren rfl) | exact trivial | exact rfl | refine And.intro ?_ ?_ | ((conv=>whnf); first | exact (aRow_ren rfl) | exact trivial | exact rfl | refine And.intro ?_ ?_ | omega))

def xlinkF (x:Xl) (ks:List Xk):List UInt8:=match ks.getLast? with
 | none=>x.link
 | some k=>k.link

theorem xlink_t (D:Dk) (n:Nat) (x:Xl) (ks:List Xk) (hk:ks.length≤100000):Triple Tryz.prog 136 [.c (.p 3 0 0 0),iv .i64 ks.length] (xlH false n D x ks) 5 (strV (xlinkF x ks)) []:=by
 rcases List.eq_nil_or_concat ks with h0 | ⟨ks',k,h0⟩
 ·subst h0
  refine triple_of tB_ok Tryz.func136 rfl Tryz.call136 rfl ?_
  intro ρ w hH
  conv=>whnf
  refine⟨fun hc=>?_,fun hc=>absurd hc (by simp)⟩
  conv=>whnf
  repeat' (first | exact (aRow_ren rfl) | exact trivial | exact rfl | refine And.intro ?_ ?_ | ((conv=>whnf); first | exact (aRow_ren rfl) | exact trivial | exact rfl | refine And.intro ?_ ?_ | omega))
 ·have hks:ks=ks' ++ [k]:=by rw [h0]; simp
  have hlen:ks.length=ks'.length+1:=by rw [hks]; simp
  have hend:xlinkF x ks=k.link:=by rw [hks]; simp [xlinkF]
  have hget:∀ h,ks[ks'.length]'h=k:=fun h=>by subst hks; simp
  have hne:((ks.length:Int) == 0)=false:=beq_false_of_ne (by omega)
  rw [hend]
  refine triple_of tB_ok Tryz.func136 rfl Tryz.call136 rfl ?_
  intro ρ w hH
  conv=>whnf
  have hx:∀ hz,(aXk ks).xs[addN 0 ks'.length]'hz=k:=fun hz=>(xk_at (show ks'.length < ks.length by omega) hz).trans (hget _)
  refine⟨fun hc=>absurd (show ((ks.length:Int) == 0)=true from hc) (by rw [hne]; decide),fun hc=>?_⟩
  conv=>whnf
  refine⟨(ks'.length:Int),by rw [show (ks.length:Int) - 1=(ks'.length:Int) from by omega]; exact wrapId ⟨by omega,by omega⟩, ?_⟩
  conv=>whnf
  refine⟨ks'.length,rfl,by omega, ?_⟩
  conv=>whnf
  refine⟨by show addN 0 ks'.length < ks.length; rw [addN_eq]; omega, ?_⟩
  rw [hx]
  conv=>whnf
  repeat' (first | exact (aRow_ren rfl) | exact trivial | exact rfl | refine And.intro ?_ ?_ | ((conv=>whnf); first | exact (aRow_ren rfl) | exact trivial | exact rfl | refine And.intro ?_ ?_ | omega))

end Go.Proofs

