/-
  A part of the proof that a law answers true: lemmas of a symbolic walk, plain functions, or contracts of the functions walked (RX). Conditions: none.
-/
import Derived.Test.YtagedjfjcnemoaaGreatPart32
set_option maxRecDepth 100000
set_option linter.unusedVariables false
set_option linter.unusedSimpArgs false
namespace Go.Proofs
open Go.Sx

theorem merge_cases {a b:Rd} (h:(mergeR a b).2=0):RdOK a∧RdOK b∧Joins a b∧checkR (outR a b)=0∧mergeR a b=(outR a b,0):=by
 classical
 have e:mergeR a b=if checkR a=0 then (if checkR b=0 then (if Joins a b then (if checkR (outR a b)=0 then (outR a b,0) else (zRd,checkR (outR a b))) else (zRd,6)) else (zRd,checkR b)) else (zRd,checkR a):=by unfold mergeR; rfl
 rw [e] at h ⊢
 by_cases ha:checkR a=0
 ·rw [if_pos ha] at h ⊢
  by_cases hb:checkR b=0
  ·rw [if_pos hb] at h ⊢
   by_cases hj:Joins a b
   ·rw [if_pos hj] at h ⊢
    by_cases hc:checkR (outR a b)=0
    ·rw [if_pos hc]
     exact⟨checkR_ok.1 ha,checkR_ok.1 hb,hj,hc,rfl⟩
    ·rw [if_neg hc] at h; exact absurd h hc
   ·rw [if_neg hj] at h; exact absurd h (by decide)
  ·rw [if_neg hb] at h; exact absurd h hb
 ·rw [if_neg ha] at h; exact absurd h ha

theorem merge_of {a b:Rd} (ha:checkR a=0) (hb:checkR b=0) (hj:Joins a b) (hc:checkR (outR a b)=0):mergeR a b=(outR a b,0):=by
 classical
 unfold mergeR
 rw [if_pos ha,if_pos hb,if_pos hj,if_pos hc]

theorem merge_sml {a b:Rd}:Sml (mergeR a b).1:=by
 classical
 have hz:Sml zRd:=⟨Nat.zero_le _,Nat.zero_le _,Nat.zero_le _,Nat.zero_le _⟩
 unfold mergeR
 split
 ·split
  ·split
   ·split
    ·rename_i hc; exact (checkR_ok.1 hc).sml
    ·exact hz
   ·exact hz
  ·exact hz
 ·exact hz

theorem less_sml {a:Rd} (h:Sml a) (ids:List Int):Sml (lessR a ids) :=
 ⟨h.bs,Nat.le_trans (List.length_filter_le _ _) h.cs,Nat.le_trans (List.length_filter_le _ _) h.ns,Nat.le_trans (List.length_filter_le _ _) h.ws⟩

theorem wout_sml {a:Rd} (h:Sml a) (ids:List Int):Sml (woutR a ids).1:=by
 have hz:Sml zRd:=⟨Nat.zero_le _,Nat.zero_le _,Nat.zero_le _,Nat.zero_le _⟩
 unfold woutR
 split
 ·cases ids.any outP with
  | true=>exact hz
  | false=>exact less_sml h ids
 ·exact hz

abbrev tkA (a b:Rd) (ids:List Int):List SV:=mgA a b ++ [.c (.s 8 0 ids.length 1)]
abbrev tkH (a b:Rd) (ids:List Int):Heap:=mgH a b ++ [(8,false, .arr (aInt ids))]

set_option maxHeartbeats 4000000 in
theorem balanceTakes_t (a:Rd) (hwa:Wide a) (b:Rd) (hwb:Wide b) (ids:List Int) (hid:ids.length≤140737488351232):Triple Tryz.prog 11 (tkA a b ids) (tkH a b ids) 9 (bv true) []:=by
 have hFa:=few_rd_t a hwa
 have hFb:=few_rd_t b hwb
 by_cases hfa:fewRd a=true
 rotate_left
 ·rw [Bool.not_eq_true] at hfa
  rw [hfa] at hFa
  refine triple_of tB_ok Tryz.func11 rfl Tryz.call11 rfl ?_
  intro ρ w hH
  conv=>whnf
  refine call_step hFa (by exact rfl) (by exact rfl) ?_
  conv=>whnf
  refine⟨?_, ?_, ?_⟩
  iterate 2 · repeat'(first|exact trivial|exact rfl|refine And.intro ?_ ?_|((conv=>whnf);first|exact trivial|exact rfl|refine And.intro ?_ ?_|omega))
  conv=>whnf
  refine⟨fun hc=>?_,fun hc=>absurd hc (by simp)⟩
  conv=>whnf
  refine call_step sanity_t (by exact rfl) (by exact rfl) ?_
  conv=>whnf
  refine⟨?_, ?_, ?_⟩
  iterate 2 · repeat'(first|exact trivial|exact rfl|refine And.intro ?_ ?_|((conv=>whnf);first|exact trivial|exact rfl|refine And.intro ?_ ?_|omega))
  conv=>whnf
  repeat'(first|exact trivial|exact rfl|refine And.intro ?_ ?_|((conv=>whnf);first|exact trivial|exact rfl|refine And.intro ?_ ?_|omega))
 rw [hfa] at hFa
 by_cases hfb:fewRd b=true
 rotate_left
 ·rw [Bool.not_eq_true] at hfb
  rw [hfb] at hFb
  refine triple_of tB_ok Tryz.func11 rfl Tryz.call11 rfl ?_
  intro ρ w hH
  conv=>whnf
  refine call_step hFa (by exact rfl) (by exact rfl) ?_
  conv=>whnf
  refine⟨?_, ?_, ?_⟩
  iterate 2 · repeat'(first|exact trivial|exact rfl|refine And.intro ?_ ?_|((conv=>whnf);first|exact trivial|exact rfl|refine And.intro ?_ ?_|omega))
  conv=>whnf
  refine⟨fun hc=>absurd hc (by simp),fun hc=>?_⟩
  conv=>whnf
  refine call_step hFb (by exact rfl) (by exact rfl) ?_
  conv=>whnf
  refine⟨?_, ?_, ?_⟩
  iterate 2 · repeat'(first|exact trivial|exact rfl|refine And.intro ?_ ?_|((conv=>whnf);first|exact trivial|exact rfl|refine And.intro ?_ ?_|omega))
  conv=>whnf
  refine⟨fun hc=>?_,fun hc=>absurd hc (by simp)⟩
  conv=>whnf
  refine call_step sanity_t (by exact rfl) (by exact rfl) ?_
  conv=>whnf
  refine⟨?_, ?_, ?_⟩
  iterate 2 · repeat'(first|exact trivial|exact rfl|refine And.intro ?_ ?_|((conv=>whnf);first|exact trivial|exact rfl|refine And.intro ?_ ?_|omega))
  conv=>whnf
  repeat'(first|exact trivial|exact rfl|refine And.intro ?_ ?_|((conv=>whnf);first|exact trivial|exact rfl|refine And.intro ?_ ?_|omega))
 rw [hfb] at hFb
 by_cases h30:30 < ids.length
 ·skip
  refine triple_of tB_ok Tryz.func11 rfl Tryz.call11 rfl ?_
  intro ρ w hH
  conv=>whnf
  refine call_step hFa (by exact rfl) (by exact rfl) ?_
  conv=>whnf
  refine⟨?_, ?_, ?_⟩
  iterate 2 · repeat'(first|exact trivial|exact rfl|refine And.intro ?_ ?_|((conv=>whnf);first|exact trivial|exact rfl|refine And.intro ?_ ?_|omega))
  conv=>whnf
  refine⟨fun hc=>absurd hc (by simp),fun hc=>?_⟩
  conv=>whnf
  refine call_step hFb (by exact rfl) (by exact rfl) ?_
  conv=>whnf
  refine⟨?_, ?_, ?_⟩
  iterate 2 · repeat'(first|exact trivial|exact rfl|refine And.intro ?_ ?_|((conv=>whnf);first|exact trivial|exact rfl|refine And.intro ?_ ?_|omega))
  conv=>whnf
  refine⟨fun hc=>absurd hc (by simp),fun hc=>?_⟩
  conv=>whnf
  refine⟨fun hc=>?_,fun hc=>absurd (of_decide_eq_false (show decide ((30:Int) < ids.length)=false from hc)) (by omega)⟩
  conv=>whnf
  refine call_step sanity_t (by exact rfl) (by exact rfl) ?_
  conv=>whnf
  refine⟨?_, ?_, ?_⟩
  iterate 2 · repeat'(first|exact trivial|exact rfl|refine And.intro ?_ ?_|((conv=>whnf);first|exact trivial|exact rfl|refine And.intro ?_ ?_|omega))
  conv=>whnf
  repeat'(first|exact trivial|exact rfl|refine And.intro ?_ ?_|((conv=>whnf);first|exact trivial|exact rfl|refine And.intro ?_ ?_|omega))
 have sa:=few_sml hfa
 have sb:=few_sml hfb
 have hW:=bWithout_t a ids sa (by omega)
 have hM:=bMerge_t a b sa sb
 have hN:=rMerge_t a b sa sb
 have hBA:=bMerge_t b a sb sa
 have hMA:=bMerge_t (mergeR a b).1 a merge_sml sa
 have hSm:=rSame_t (mergeR a b).1 merge_sml
 have hK:(mergeR a b).2=0 → mergeR a b=((mergeR a b).1,0)∧mergeR b a=((mergeR a b).1,0)∧mergeR (mergeR a b).1 a=((mergeR a b).1,0):=fun h=>by
  obtain ⟨ka,kb,kj,kc,ke⟩:=merge_cases h
  rw [ke]
  obtain ⟨o1,o2⟩:=out_comm ka.num kb.num kj
  obtain ⟨o3,o4⟩:=out_again ka.num kb.num kj
  refine⟨rfl, ?_, ?_⟩
  ·rw [merge_of (checkR_ok.2 kb) (checkR_ok.2 ka) o2 (by rw [o1]; exact kc),o1]
  ·show mergeR (outR a b) a=(outR a b,0)
   rw [merge_of kc (checkR_ok.2 ka) o4 (by rw [o3]; exact kc),o3]
 generalize mergeR (mergeR a b).1 a=M2 at *
 generalize mergeR b a=M1 at *
 generalize mergeR a b=M at *
 by_cases hE:checkR a ≠ 0 ∨ ids.any outP=true
 ·have hX:=rWithoutN_t a ids sa (by omega) hE
  have hSx:=rSame_t (woutR a ids).1 (wout_sml sa ids)
  generalize woutR a ids=W at *
  clear hE
  refine triple_of tB_ok Tryz.func11 rfl Tryz.call11 rfl ?_
  intro ρ w hH
  conv=>whnf
  refine call_step hFa (by exact rfl) (by exact rfl) ?_
  conv=>whnf
  refine⟨?_, ?_, ?_⟩
  iterate 2 · repeat'(first|exact trivial|exact rfl|refine And.intro ?_ ?_|((conv=>whnf);first|exact trivial|exact rfl|refine And.intro ?_ ?_|omega))
  conv=>whnf
  refine⟨fun hc=>absurd hc (by simp),fun hc=>?_⟩
  conv=>whnf
  refine call_step hFb (by exact rfl) (by exact rfl) ?_
  conv=>whnf
  refine⟨?_, ?_, ?_⟩
  iterate 2 · repeat'(first|exact trivial|exact rfl|refine And.intro ?_ ?_|((conv=>whnf);first|exact trivial|exact rfl|refine And.intro ?_ ?_|omega))
  conv=>whnf
  refine⟨fun hc=>absurd hc (by simp),fun hc=>?_⟩
  conv=>whnf
  refine⟨fun hc=>absurd (of_decide_eq_true (show decide ((30:Int) < ids.length)=true from hc)) (by omega),fun hc=>?_⟩
  conv=>whnf
  refine call_step hW (by exact rfl) (by exact rfl) ?_
  conv=>whnf
  refine⟨?_, ?_, ?_⟩
  iterate 2 · repeat'(first|exact trivial|exact rfl|refine And.intro ?_ ?_|((conv=>whnf);first|exact trivial|exact rfl|refine And.intro ?_ ?_|omega))
  conv=>whnf
  refine call_step hX (by exact rfl) (by exact rfl) ?_
  conv=>whnf
  refine⟨?_, ?_, ?_⟩
  iterate 2 · repeat'(first|exact trivial|exact rfl|refine And.intro ?_ ?_|((conv=>whnf);first|exact trivial|exact rfl|refine And.intro ?_ ?_|omega))
  conv=>whnf
  refine call_step hM (by exact rfl) (by exact rfl) ?_
  conv=>whnf
  refine⟨?_, ?_, ?_⟩
  iterate 2 · repeat'(first|exact trivial|exact rfl|refine And.intro ?_ ?_|((conv=>whnf);first|exact trivial|exact rfl|refine And.intro ?_ ?_|omega))
  conv=>whnf
  refine call_step hN (by exact rfl) (by exact rfl) ?_
  conv=>whnf
  refine⟨?_, ?_, ?_⟩
  iterate 2 · repeat'(first|exact trivial|exact rfl|refine And.intro ?_ ?_|((conv=>whnf);first|exact trivial|exact rfl|refine And.intro ?_ ?_|omega))
  conv=>whnf
  refine⟨fun hc=>absurd (show (W.2 != W.2)=true from hc) (by simp),fun hc=>?_⟩
  conv=>whnf
  refine call_step hSx (by exact rfl) (by exact rfl) ?_
  conv=>whnf
  refine⟨?_, ?_, ?_⟩
  iterate 2 · repeat'(first|exact trivial|exact rfl|refine And.intro ?_ ?_|((conv=>whnf);first|exact trivial|exact rfl|refine And.intro ?_ ?_|omega))
  conv=>whnf
  refine⟨fun hc=>absurd hc (by simp),fun hc=>?_⟩
  conv=>whnf
  refine⟨fun hc=>absurd (show (M.2 != M.2)=true from hc) (by simp),fun hc=>?_⟩
  conv=>whnf
  refine call_step hSm (by exact rfl) (by exact rfl) ?_
  conv=>whnf
  refine⟨?_, ?_, ?_⟩
  iterate 2 · repeat'(first|exact trivial|exact rfl|refine And.intro ?_ ?_|((conv=>whnf);first|exact trivial|exact rfl|refine And.intro ?_ ?_|omega))
  conv=>whnf
  refine⟨fun hc=>absurd hc (by simp),fun hc=>?_⟩
  conv=>whnf
  by_cases hm0:M.2=0
  rotate_left
  ·refine⟨fun hcc=>?_,fun hcc=>absurd (by simpa using (show (M.2 != 0)=false from hcc)) hm0⟩
   conv=>whnf
   refine call_step sanity_t (by exact rfl) (by exact rfl) ?_
   conv=>whnf
   refine⟨?_, ?_, ?_⟩
   iterate 2 · repeat'(first|exact trivial|exact rfl|refine And.intro ?_ ?_|((conv=>whnf);first|exact trivial|exact rfl|refine And.intro ?_ ?_|omega))
   conv=>whnf
   repeat'(first|exact trivial|exact rfl|refine And.intro ?_ ?_|((conv=>whnf);first|exact trivial|exact rfl|refine And.intro ?_ ?_|omega))
  obtain ⟨e1,e2,e3⟩:=hK hm0
  rw [e2] at hBA
  rw [e3] at hMA
  refine⟨fun hcc=>absurd hm0 (by simpa using (show (M.2 != 0)=true from hcc)),fun hcc=>?_⟩
  conv=>whnf
  refine call_step hBA (by exact rfl) (by exact rfl) ?_
  conv=>whnf
  refine⟨?_, ?_, ?_⟩
  iterate 2 · repeat'(first|exact trivial|exact rfl|refine And.intro ?_ ?_|((conv=>whnf);first|exact trivial|exact rfl|refine And.intro ?_ ?_|omega))
  conv=>whnf
  refine call_step hMA (by exact rfl) (by exact rfl) ?_
  conv=>whnf
  refine⟨?_, ?_, ?_⟩
  iterate 2 · repeat'(first|exact trivial|exact rfl|refine And.intro ?_ ?_|((conv=>whnf);first|exact trivial|exact rfl|refine And.intro ?_ ?_|omega))
  conv=>whnf
  refine call_step sanity_t (by exact rfl) (by exact rfl) ?_
  conv=>whnf
  refine⟨?_, ?_, ?_⟩
  iterate 2 · repeat'(first|exact trivial|exact rfl|refine And.intro ?_ ?_|((conv=>whnf);first|exact trivial|exact rfl|refine And.intro ?_ ?_|omega))
  conv=>whnf
  refine⟨fun hc=>?_,fun hc=>absurd hc (by simp)⟩
  conv=>whnf
  refine⟨fun hc=>?_,fun hc=>absurd hc (by simp)⟩
  conv=>whnf
  refine⟨fun hc=>?_,fun hc=>absurd hc (by simp)⟩
  conv=>whnf
  refine call_step hSm (by exact rfl) (by exact rfl) ?_
  conv=>whnf
  refine⟨?_, ?_, ?_⟩
  iterate 2 · repeat'(first|exact trivial|exact rfl|refine And.intro ?_ ?_|((conv=>whnf);first|exact trivial|exact rfl|refine And.intro ?_ ?_|omega))
  conv=>whnf
  refine⟨fun hc=>?_,fun hc=>absurd hc (by simp)⟩
  conv=>whnf
  refine call_step hSm (by exact rfl) (by exact rfl) ?_
  conv=>whnf
  refine⟨?_, ?_, ?_⟩
  iterate 2 · repeat'(first|exact trivial|exact rfl|refine And.intro ?_ ?_|((conv=>whnf);first|exact trivial|exact rfl|refine And.intro ?_ ?_|omega))
  conv=>whnf
  repeat'(first|exact trivial|exact rfl|refine And.intro ?_ ?_|((conv=>whnf);first|exact trivial|exact rfl|refine And.intro ?_ ?_|omega))
 ·have h0:checkR a=0:=Decidable.byContradiction fun h=>hE (.inl h)
  have h1:ids.any outP=false:=by
   cases hb:ids.any outP with
   | false=>rfl
   | true=>exact absurd (.inr hb) hE
  have hX:=rWithoutY_t a ids sa (by omega) h0 h1
  have hWe:woutR a ids=(lessR a ids,0):=by unfold woutR; rw [if_pos h0,h1]; rfl
  rw [hWe] at hW
  have hSx:=rSame_t (lessR a ids) (less_sml sa ids)
  have hbs:(lessR a ids).bs=a.bs:=rfl
  clear hE hWe
  generalize lessR a ids=W at *
  obtain ⟨wb,wc,wn,ww⟩:=W
  have hbs:wb=a.bs:=hbs
  subst hbs
  refine triple_of tB_ok Tryz.func11 rfl Tryz.call11 rfl ?_
  intro ρ w hH
  conv=>whnf
  refine call_step hFa (by exact rfl) (by exact rfl) ?_
  conv=>whnf
  refine⟨?_, ?_, ?_⟩
  iterate 2 · repeat'(first|exact trivial|exact rfl|refine And.intro ?_ ?_|((conv=>whnf);first|exact trivial|exact rfl|refine And.intro ?_ ?_|omega))
  conv=>whnf
  refine⟨fun hc=>absurd hc (by simp),fun hc=>?_⟩
  conv=>whnf
  refine call_step hFb (by exact rfl) (by exact rfl) ?_
  conv=>whnf
  refine⟨?_, ?_, ?_⟩
  iterate 2 · repeat'(first|exact trivial|exact rfl|refine And.intro ?_ ?_|((conv=>whnf);first|exact trivial|exact rfl|refine And.intro ?_ ?_|omega))
  conv=>whnf
  refine⟨fun hc=>absurd hc (by simp),fun hc=>?_⟩
  conv=>whnf
  refine⟨fun hc=>absurd (of_decide_eq_true (show decide ((30:Int) < ids.length)=true from hc)) (by omega),fun hc=>?_⟩
  conv=>whnf
  refine call_step hW (by exact rfl) (by exact rfl) ?_
  conv=>whnf
  refine⟨?_, ?_, ?_⟩
  iterate 2 · repeat'(first|exact trivial|exact rfl|refine And.intro ?_ ?_|((conv=>whnf);first|exact trivial|exact rfl|refine And.intro ?_ ?_|omega))
  conv=>whnf
  refine call_step hX (by exact rfl) (by exact rfl) ?_
  conv=>whnf
  refine⟨?_, ?_, ?_⟩
  iterate 2 · repeat'(first|exact trivial|exact rfl|refine And.intro ?_ ?_|((conv=>whnf);first|exact trivial|exact rfl|refine And.intro ?_ ?_|omega))
  conv=>whnf
  refine call_step hM (by exact rfl) (by exact rfl) ?_
  conv=>whnf
  refine⟨?_, ?_, ?_⟩
  iterate 2 · repeat'(first|exact trivial|exact rfl|refine And.intro ?_ ?_|((conv=>whnf);first|exact trivial|exact rfl|refine And.intro ?_ ?_|omega))
  conv=>whnf
  refine call_step hN (by exact rfl) (by exact rfl) ?_
  conv=>whnf
  refine⟨?_, ?_, ?_⟩
  iterate 2 · repeat'(first|exact trivial|exact rfl|refine And.intro ?_ ?_|((conv=>whnf);first|exact trivial|exact rfl|refine And.intro ?_ ?_|omega))
  conv=>whnf
  refine⟨fun hc=>absurd hc (by simp),fun hc=>?_⟩
  conv=>whnf
  refine call_step hSx (by exact rfl) (by exact rfl) ?_
  conv=>whnf
  refine⟨?_, ?_, ?_⟩
  iterate 2 · repeat'(first|exact trivial|exact rfl|refine And.intro ?_ ?_|((conv=>whnf);first|exact trivial|exact rfl|refine And.intro ?_ ?_|omega))
  conv=>whnf
  refine⟨fun hc=>absurd hc (by simp),fun hc=>?_⟩
  conv=>whnf
  refine⟨fun hc=>absurd (show (M.2 != M.2)=true from hc) (by simp),fun hc=>?_⟩
  conv=>whnf
  refine call_step hSm (by exact rfl) (by exact rfl) ?_
  conv=>whnf
  refine⟨?_, ?_, ?_⟩
  iterate 2 · repeat'(first|exact trivial|exact rfl|refine And.intro ?_ ?_|((conv=>whnf);first|exact trivial|exact rfl|refine And.intro ?_ ?_|omega))
  conv=>whnf
  refine⟨fun hc=>absurd hc (by simp),fun hc=>?_⟩
  conv=>whnf
  by_cases hm0:M.2=0
  rotate_left
  ·refine⟨fun hcc=>?_,fun hcc=>absurd (by simpa using (show (M.2 != 0)=false from hcc)) hm0⟩
   conv=>whnf
   refine call_step sanity_t (by exact rfl) (by exact rfl) ?_
   conv=>whnf
   refine⟨?_, ?_, ?_⟩
   iterate 2 · repeat'(first|exact trivial|exact rfl|refine And.intro ?_ ?_|((conv=>whnf);first|exact trivial|exact rfl|refine And.intro ?_ ?_|omega))
   conv=>whnf
   repeat'(first|exact trivial|exact rfl|refine And.intro ?_ ?_|((conv=>whnf);first|exact trivial|exact rfl|refine And.intro ?_ ?_|omega))
  obtain ⟨e1,e2,e3⟩:=hK hm0
  rw [e2] at hBA
  rw [e3] at hMA
  refine⟨fun hcc=>absurd hm0 (by simpa using (show (M.2 != 0)=true from hcc)),fun hcc=>?_⟩
  conv=>whnf
  refine call_step hBA (by exact rfl) (by exact rfl) ?_
  conv=>whnf
  refine⟨?_, ?_, ?_⟩
  iterate 2 · repeat'(first|exact trivial|exact rfl|refine And.intro ?_ ?_|((conv=>whnf);first|exact trivial|exact rfl|refine And.intro ?_ ?_|omega))
  conv=>whnf
  refine call_step hMA (by exact rfl) (by exact rfl) ?_
  conv=>whnf
  refine⟨?_, ?_, ?_⟩
  iterate 2 · repeat'(first|exact trivial|exact rfl|refine And.intro ?_ ?_|((conv=>whnf);first|exact trivial|exact rfl|refine And.intro ?_ ?_|omega))
  conv=>whnf
  refine call_step sanity_t (by exact rfl) (by exact rfl) ?_
  conv=>whnf
  refine⟨?_, ?_, ?_⟩
  iterate 2 · repeat'(first|exact trivial|exact rfl|refine And.intro ?_ ?_|((conv=>whnf);first|exact trivial|exact rfl|refine And.intro ?_ ?_|omega))
  conv=>whnf
  refine⟨fun hc=>?_,fun hc=>absurd hc (by simp)⟩
  conv=>whnf
  refine⟨fun hc=>?_,fun hc=>absurd hc (by simp)⟩
  conv=>whnf
  refine⟨fun hc=>?_,fun hc=>absurd hc (by simp)⟩
  conv=>whnf
  refine call_step hSm (by exact rfl) (by exact rfl) ?_
  conv=>whnf
  refine⟨?_, ?_, ?_⟩
  iterate 2 · repeat'(first|exact trivial|exact rfl|refine And.intro ?_ ?_|((conv=>whnf);first|exact trivial|exact rfl|refine And.intro ?_ ?_|omega))
  conv=>whnf
  refine⟨fun hc=>?_,fun hc=>absurd hc (by simp)⟩
  conv=>whnf
  refine call_step hSm (by exact rfl) (by exact rfl) ?_
  conv=>whnf
  refine⟨?_, ?_, ?_⟩
  iterate 2 · repeat'(first|exact trivial|exact rfl|refine And.intro ?_ ?_|((conv=>whnf);first|exact trivial|exact rfl|refine And.intro ?_ ?_|omega))
  conv=>whnf
  repeat'(first|exact trivial|exact rfl|refine And.intro ?_ ?_|((conv=>whnf);first|exact trivial|exact rfl|refine And.intro ?_ ?_|omega))

end Go.Proofs

