/-
  A part of the proof that a law answers true: lemmas of a symbolic walk, plain functions, or contracts of the functions walked (Wh, Wi, Wj, Wk, Wl, Pm5, Pm6, Pm7, X1, Pm8, X2, X3, Pm11, X6, X7, X8, Pm9, Pm10, Sx30, X4, W2, X5, X9, Xa, Pm13, Pm14, Pm15, Xj, Xk, Pm16, Xl, Xm, Xn, Xo, Pm19, B1). Conditions: none.
-/
import Derived.Test.YtagedjfjcnemoaaGreatPart12
import Derived.Test.YtagedjfjcnemoaaGreatPart09
import Derived.Test.YtagedjfjcnemoaaGreatPart11
import Derived.Lib.SlicesCompact
import Derived.Test.YtagedjfjcnemoaaGreatPart06
set_option maxRecDepth 100000
set_option linter.unusedVariables false
set_option linter.unusedSimpArgs false
namespace Go.Proofs
open Go.Sx

end Go.Proofs

namespace Go.Proofs
open Go.Sx

end Go.Proofs

namespace Go.Proofs
open Go.Sx

end Go.Proofs

namespace Go.Proofs
open Go.Sx

theorem seqRound (xs:List Lnk) (l:Lnk) (hlen:xs.length≤1000000):RoundT Tryz.prog Tryz.f242.ntmps [(2, .c (.p 1 0 0 0))] #[7]
  (rfA Tryz.f242) (rfB Tryz.f242) [svL l]
  [(1,true, .cells [.s 2 0 xs.length 4]),(2,true, .arr (aLink xs))] 3
  [(1,true, .cells [.s 3 0 (xs ++ [l]).length 4]),(3,true, .arr (aLink (xs ++ [l])))]:=by
 refine round_of tB_ok rfl ?_
 intro Φ Φ' ρ w
 conv=>whnf
 refine⟨rfl, ?_⟩
 conv=>whnf
 refine bs_step tB_ok (aLink [l]) rfl rfl ?_
 conv=>whnf
 refine⟨⟨rfl,⟨rfl,rfl,rfl,rfl,trivial⟩⟩, ?_⟩
 conv=>whnf
 refine app_step tB_ok (aLink xs) [l] (fun _=>rfl) rfl rfl rfl rfl ?_
 conv=>whnf
 refine⟨⟨rfl,rfl,Nat.le_refl _,Nat.le_refl _,by simp; omega⟩, ?_⟩
 conv=>whnf
 refine⟨rfl, ?_⟩
 conv=>whnf
 repeat'(first|exact trivial|exact rfl|refine And.intro ?_ ?_|((conv=>whnf);first|exact trivial|exact rfl|refine And.intro ?_ ?_|omega))
 all_goals first | exact (congrArg aLink app1.symm:_) | exact (congrArg aLink app1:_) | simp

theorem boxLinks_take {bs:List (Int × Int)} {i:Nat} (h:i < bs.length):boxLinks 0 (bs.take (i+1))=(boxLinks 0 (bs.take i) ++ [⟨-1,i,bs[i].2,0⟩]) ++ [⟨i,-1,-bs[i].1,0⟩]:=by
 rw [take_snoc h,boxLinks_append]
 have:0+(bs.take i).length=i:=by simp; omega
 rw [this]
 simp [boxLinks]

theorem boxTake_len (bs:List (Int × Int)) (i:Nat):(boxLinks 0 (bs.take i)).length≤2 * bs.length:=by
 rw [boxLinks_length,List.length_take]; omega

theorem appendSeqNil_t (bs:List (Int × Int)) (hb:bs.length≤1000) (hB:BoxB bs) :
  Triple Tryz.prog 242 [.c (.v (.slice none 0 0)), .c (.f 243 [0])]
   [(0,false, .cells [.s 1 0 bs.length 2, .v (.slice none 0 0)]),(1,false, .arr (aSpan bs))] 2 (.c (.s 2 0 (boxLinks 0 bs).length 4)) [(2,true, .arr (aLink (boxLinks 0 bs)))]:=by
 refine triple_of tB_ok Tryz.func242 rfl Tryz.call242 rfl ?_
 intro ρ w hH
 conv=>whnf
 refine range_step (asg:=rfA Tryz.f242) (body:=rfB Tryz.f242) tB_ok rfl Tryz.func243 rfl Tryz.call243 rfl ?_
 conv=>whnf
 intro fo d l T0 ρ1 hT hE hl1
 have hA:∀ i sv,(i,sv) ∈ [(2,SV.c (.p 2 0 0 0))] → sv.rel ρ1 (T0.getD i undef):=by
  intro i sv hm
  rcases List.mem_cons.1 hm with he | hm
  ·cases he; exact hE 2
  ·cases hm
 clear hE
 conv=>whnf
 have hbl:=boxTake_len bs
 refine loop_step tB_ok (G:=Nat × List Lnk) 1 [] (fun g=>[(10,iv .i64 g.1)]) (fun g=>[(2,true, .cells [.s 5 0 g.2.length 4]),(5,true, .arr (aLink g.2)),(4,true,recO fo T0 #[7] (rfA Tryz.f242) (rfB Tryz.f242) d)])
  (fun g=>g.1≤bs.length∧g.2=boxLinks 0 (bs.take g.1)) (fun g=>bs.length - g.1) ?_
 conv=>whnf
 refine⟨⟨(0,[]),⟨Nat.zero_le _,rfl⟩, ?_⟩, ?_⟩
 ·conv=>whnf
  repeat'(first|exact trivial|exact rfl|refine And.intro ?_ ?_|((conv=>whnf);first|exact trivial|exact rfl|refine And.intro ?_ ?_|omega))
 rintro ⟨i,xs⟩ ⟨hi,hxs⟩ ρ2 t2 hρ2
 have hi:i≤bs.length:=hi
 have hxs:xs=boxLinks 0 (bs.take i):=hxs
 have hxl:xs.length≤2 * bs.length:=by rw [hxs]; exact hbl i
 have hρ2:∀ k,k < 5 → ρ2 k=ρ1 k:=hρ2
 dsimp only
 conv=>whnf
 refine⟨fun hc=>?_,fun hc=>?_⟩
 ·conv=>whnf
  have h:i < bs.length:=by simpa using hc
  have hst:=boxLinks_take h
  rw [← hxs] at hst
  refine⟨i,rfl,h,h, ?_⟩
  conv=>whnf
  refine yield_step (fn:=fo) (d:=d) [(2, .c (.p 2 0 0 0))] 4 (seqRound xs ⟨-1,i,bs[i].2,0⟩ (by omega)) hT (relSt_agree hA rfl hρ2) ((congrArg Rg.blk (hρ2 4 (by omega))).trans hl1) rfl rfl rfl rfl ?_
  conv=>whnf
  refine⟨?_, ?_, ?_⟩
  iterate 2 · repeat'(first|exact trivial|exact rfl|refine And.intro ?_ ?_|((conv=>whnf);first|exact trivial|exact rfl|refine And.intro ?_ ?_|omega))
  conv=>whnf
  refine⟨-bs[i].1, ?_, ?_⟩
  ·have:=(hB bs[i] (List.getElem_mem h)).1
   show IntKind.i64.wrap (0 - bs[i].1)=-bs[i].1
   rw [wrapId ⟨by omega,by omega⟩]; omega
  conv=>whnf
  refine yield_step (fn:=fo) (d:=d) [(2, .c (.p 2 0 0 0))] 4 (seqRound (xs ++ [⟨-1,i,bs[i].2,0⟩]) ⟨i,-1,-bs[i].1,0⟩ (by simp; omega)) hT (relSt_agree hA rfl hρ2) ((congrArg Rg.blk (hρ2 4 (by omega))).trans hl1) rfl rfl rfl rfl ?_
  conv=>whnf
  refine⟨?_, ?_, ?_⟩
  iterate 2 · repeat'(first|exact trivial|exact rfl|refine And.intro ?_ ?_|((conv=>whnf);first|exact trivial|exact rfl|refine And.intro ?_ ?_|omega))
  conv=>whnf
  refine⟨_,wrapId ⟨by omega,by omega⟩, ?_⟩
  refine⟨(i+1,(xs ++ [⟨-1,i,bs[i].2,0⟩]) ++ [⟨i,-1,-bs[i].1,0⟩]),⟨h,hst.symm⟩,by show bs.length - (i+1) < bs.length - i; omega, ?_⟩
  conv=>whnf
  refine⟨rfl, ?_⟩
  conv=>whnf
  repeat'(first|exact trivial|exact rfl|refine And.intro ?_ ?_|((conv=>whnf);first|exact trivial|exact rfl|refine And.intro ?_ ?_|omega))
 have hie:i=bs.length:=by simp at hc; omega
 rw [hie,List.take_length] at hxs
 conv=>whnf
 subst hxs
 refine loop_step tB_ok (G:=Unit) 0 [] (fun g=>[(36,iv .i64 0)]) (fun g=>[]) (fun g=>True) (fun g=>0) ?_
 conv=>whnf
 refine⟨⟨(),trivial, ?_⟩, ?_⟩
 ·conv=>whnf
  repeat'(first|exact trivial|exact rfl|refine And.intro ?_ ?_|((conv=>whnf);first|exact trivial|exact rfl|refine And.intro ?_ ?_|omega))
 intro _ _ ρ3 t3 hρ3
 conv=>whnf
 refine⟨fun hc=>?_,fun hc=>?_⟩
 ·simp at hc
 conv=>whnf
 refine⟨rfl, ?_⟩
 conv=>whnf
 refine⟨fun _ h=>h, ?_⟩
 conv=>whnf
 repeat'(first|exact trivial|exact rfl|refine And.intro ?_ ?_|((conv=>whnf);first|exact trivial|exact rfl|refine And.intro ?_ ?_|omega))

theorem allNil_t (bs:List (Int × Int)):Triple Tryz.prog 198 [.agg [.s 0 0 bs.length 2, .v (.slice none 0 0)]] [(0,false, .arr (aSpan bs))] 1 (.c (.f 243 [1])) [(1,true, .cells [.s 0 0 bs.length 2, .v (.slice none 0 0)])]:=by
 refine triple_of tB_ok Tryz.func198 rfl Tryz.call198 rfl ?_
 intro ρ w hH
 conv=>whnf
 repeat'(first|exact trivial|exact rfl|refine And.intro ?_ ?_|((conv=>whnf);first|exact trivial|exact rfl|refine And.intro ?_ ?_|omega))

theorem collectNil_t (bs:List (Int × Int)) (hb:bs.length≤1000) (hB:BoxB bs) :
  Triple Tryz.prog 197 [.c (.f 243 [0])]
   [(0,false, .cells [.s 1 0 bs.length 2, .v (.slice none 0 0)]),(1,false, .arr (aSpan bs))] 2 (.c (.s 2 0 (boxLinks 0 bs).length 4)) [(2,true, .arr (aLink (boxLinks 0 bs)))]:=by
 refine triple_of tB_ok Tryz.func197 rfl Tryz.call197 rfl ?_
 intro ρ w hH
 conv=>whnf
 refine call_step (appendSeqNil_t bs hb hB) rfl rfl ?_
 conv=>whnf
 refine⟨?_, ?_, ?_⟩
 iterate 2 · repeat'(first|exact trivial|exact rfl|refine And.intro ?_ ?_|((conv=>whnf);first|exact trivial|exact rfl|refine And.intro ?_ ?_|omega))
 conv=>whnf
 repeat'(first|exact trivial|exact rfl|refine And.intro ?_ ?_|((conv=>whnf);first|exact trivial|exact rfl|refine And.intro ?_ ?_|omega))

theorem Base_t (bs:List (Int × Int)) (ls:List Lnk) (hs:SysOK bs ls) :
  Triple Tryz.prog 129 [sysA bs.length ls.length] (sysH bs ls) 2 (.tup [.inl (.s 2 0 (boxLinks 0 bs).length 4), .inl (.v (.int .i64 0))]) [(2,true, .arr (aLink (boxLinks 0 bs)))]:=by
 refine triple_of tB_ok Tryz.func129 rfl Tryz.call129 rfl ?_
 intro ρ w hH
 conv=>whnf
 have hnb:=hs.nb
 have hnl:=hs.nl
 refine call_step (check_t bs ls (by omega) (by omega)) rfl rfl ?_
 conv=>whnf
 refine⟨?_, ?_, ?_⟩
 iterate 2 · repeat'(first|exact trivial|exact rfl|refine And.intro ?_ ?_|((conv=>whnf);first|exact trivial|exact rfl|refine And.intro ?_ ?_|omega))
 conv=>whnf
 rw [checkF_ok.2 hs]
 refine⟨fun hc=>?_,fun hc=>?_⟩
 ·cases hc
 conv=>whnf
 refine call_step (allNil_t bs) rfl rfl ?_
 conv=>whnf
 refine⟨?_, ?_, ?_⟩
 iterate 2 · repeat'(first|exact trivial|exact rfl|refine And.intro ?_ ?_|((conv=>whnf);first|exact trivial|exact rfl|refine And.intro ?_ ?_|omega))
 conv=>whnf
 refine call_step (collectNil_t bs (by omega) hs.boxB) rfl rfl ?_
 conv=>whnf
 refine⟨?_, ?_, ?_⟩
 iterate 2 · repeat'(first|exact trivial|exact rfl|refine And.intro ?_ ?_|((conv=>whnf);first|exact trivial|exact rfl|refine And.intro ?_ ?_|omega))
 conv=>whnf
 repeat'(first|exact trivial|exact rfl|refine And.intro ?_ ?_|((conv=>whnf);first|exact trivial|exact rfl|refine And.intro ?_ ?_|omega))

end Go.Proofs

namespace Go.Proofs
open Go.Sx

end Go.Proofs

/-
  Plain lemmas,part 5: relaxing arcs until nothing changes. A clock tells when each place was changed last; if a place is changed in a late round,the arcs over which the places were reached last form a cycle,and its sum is negative. Conditions: none; definitions and plain lemmas.
-/
namespace Go
namespace Proofs

structure Edg where
  k:Int
  a:Nat
  b:Nat
  w:Int

def relE (T:Tr) (e:Edg):Tr:=relax e.k e.a e.b e.w T

def edgs (n:Nat) (rev:Nat → Bool):Nat → List Lnk → List Edg
  | _,[]=>[]
  | i,l :: r=>⟨2 * i,plc n l.f,plc n l.t,l.m⟩ :: ((if rev i then [⟨2 * i+1,plc n l.t,plc n l.f,-l.m⟩] else []) ++ edgs n rev (i+1) r)

theorem passF_edgs (n:Nat) (rev:Nat → Bool):∀ (xs:List Lnk) (i:Nat) (T:Tr),passF n rev i xs T=(edgs n rev i xs).foldl relE T
  | [],_,_=>rfl
  | l :: r,i,T=>by
    simp only [passF,edgs,List.foldl_cons,List.foldl_append]
    rw [passF_edgs n rev r]
    congr 1
    unfold arcF
    cases rev i <;> rfl

theorem getD_set {α:Type} {xs:List α} {b v:Nat} {x d:α} (h:b < xs.length):(xs.set b x).getD v d=if v=b then x else xs.getD v d:=by
  simp only [List.getD_eq_getElem?_getD,List.getElem?_set]
  by_cases hv:b=v
  · subst hv; simp [h]
  · rw [if_neg hv,if_neg (fun h=>hv h.symm)]

def OKE (e:Edg) (T:Tr):Prop:=T.there.getD e.b false=true∧T.sum.getD e.b 0≤T.sum.getD e.a 0+e.w

structure BF (E:List Edg) (N src r j:Nat) (ts:Nat → Nat) (T:Tr):Prop where
  ls:T.sum.length=N
  lt:T.there.length=N
  ll:T.last.length=N
  so:src < N∧T.there.getD src false=true∧T.sum.getD src 0≤0∧(T.sum.getD src 0 < 0 ∨ T.last.getD src (-1)=-1)
  low:∀ q:Nat → Int,(∀ e ∈ E,q e.b≤q e.a+e.w) → ∀ v,v < N → T.there.getD v false=true → q v≤q src+T.sum.getD v 0
  root:∀ v,v < N → T.last.getD v (-1)=-1 → (T.there.getD v false=true → v=src)∧ts v=0
  par:∀ v,v < N → T.last.getD v (-1) ≠ -1 → T.there.getD v false=true∧1≤ts v∧∃ e ∈ E,e.k=T.last.getD v (-1)∧e.b=v∧T.there.getD e.a false=true ∧
    ts v≤ts e.a+E.length∧(T.sum.getD e.a 0+e.w < T.sum.getD v 0 ∨ (T.sum.getD e.a 0+e.w=T.sum.getD v 0∧ts e.a < ts v))
  done:∀ i e,E[i]? = some e → T.there.getD e.a false=true → (i < j → ts e.a≤r * E.length+i → OKE e T)∧(j≤i → ts e.a+E.length≤r * E.length+i → OKE e T)
  tm:∀ v,ts v≤r * E.length+j

def EOK (N:Nat) (E:List Edg):Prop:=∀ e ∈ E,e.a < N∧e.b < N∧0≤e.k

def relC (e:Edg) (T:Tr):Bool:=T.there.getD e.a false && (!T.there.getD e.b false || decide (T.sum.getD e.a 0+e.w < T.sum.getD e.b 0))

theorem relC_no {e:Edg} {T:Tr} (h:relC e T=false) (ha:T.there.getD e.a false=true):OKE e T:=by
  unfold relC at h
  rw [ha,Bool.true_and,Bool.or_eq_false_iff] at h
  refine⟨by simpa using h.1, ?_⟩
  have:=of_decide_eq_false h.2
  omega

theorem relE_no {e:Edg} {T:Tr} (h:relC e T=false):relE T e=T:=by
  unfold relE relax
  unfold relC at h
  rw [h]; simp

theorem relE_yes {e:Edg} {T:Tr} (h:relC e T=true):relE T e=⟨T.sum.set e.b (T.sum.getD e.a 0+e.w),T.there.set e.b true,T.last.set e.b e.k,e.b⟩:=by
  unfold relE relax
  unfold relC at h
  rw [h]; simp

theorem relC_yes {e:Edg} {T:Tr} (h:relC e T=true):T.there.getD e.a false=true∧(T.there.getD e.b false=true → T.sum.getD e.a 0+e.w < T.sum.getD e.b 0):=by
  unfold relC at h
  rw [Bool.and_eq_true,Bool.or_eq_true] at h
  refine⟨h.1,fun hb=>?_⟩
  rcases h.2 with h2 | h2
  · rw [hb] at h2; cases h2
  · exact of_decide_eq_true h2

theorem BF.step {E:List Edg} {N src r j:Nat} {ts:Nat → Nat} {T:Tr} {e:Edg} (h:BF E N src r j ts T) (hE:EOK N E) (he:E[j]? = some e) :
    (relC e T=false∧BF E N src r (j+1) ts T) ∨
    (relC e T=true∧BF E N src r (j+1) (fun v=>if v=e.b then r * E.length+j+1 else ts v) (relE T e)):=by
  have hm:e ∈ E:=List.mem_of_getElem? he
  have hjl:j < E.length:=(List.getElem?_eq_some_iff.1 he).1
  obtain ⟨ha,hb,hk⟩:=hE e hm
  cases hc:relC e T with
  | false =>
    refine .inl ⟨rfl,h.ls,h.lt,h.ll,h.so,h.low,h.root,h.par,fun i e' hi ht=>⟨fun h1 h2=>?_,fun h1 h2=>(h.done i e' hi ht).2 (by omega) h2⟩,fun v=>by have:=h.tm v; omega⟩
    by_cases hij:i=j
    · subst hij
      rw [he] at hi
      obtain rfl:=Option.some.inj hi
      exact relC_no hc ht
    · exact (h.done i e' hi ht).1 (by omega) h2
  | true =>
    refine .inr ⟨rfl, ?_⟩
    obtain ⟨hta,htb⟩:=relC_yes hc
    rw [relE_yes hc]
    have hS:∀ v,(T.sum.set e.b (T.sum.getD e.a 0+e.w)).getD v 0=if v=e.b then T.sum.getD e.a 0+e.w else T.sum.getD v 0:=fun v=>getD_set (by rw [h.ls]; exact hb)
    have hT:∀ v,(T.there.set e.b true).getD v false=if v=e.b then true else T.there.getD v false:=fun v=>getD_set (by rw [h.lt]; exact hb)
    have hL:∀ v,(T.last.set e.b e.k).getD v (-1)=if v=e.b then e.k else T.last.getD v (-1):=fun v=>getD_set (by rw [h.ll]; exact hb)
    have hT1:∀ v,T.there.getD v false=true → (T.there.set e.b true).getD v false=true:=fun v hv=>by
      rw [hT]; split
      · rfl
      · exact hv
    refine⟨by simp [h.ls],by simp [h.lt],by simp [h.ll],⟨h.so.1,hT1 _ h.so.2.1, ?_⟩, ?_, ?_, ?_, ?_, ?_⟩
    · simp only [hS,hL]
      by_cases hs:src=e.b
      · rw [if_pos hs,if_pos hs]
        have h1:=htb (hs ▸ h.so.2.1)
        have h2:=h.so.2.2.1
        rw [hs] at h2
        exact⟨by omega, .inl (by omega)⟩
      · rw [if_neg hs,if_neg hs]; exact h.so.2.2
    · intro q hq v hv ht
      simp only [hS]
      by_cases hvb:v=e.b
      · rw [if_pos hvb]
        have h1:=h.low q hq e.a ha hta
        have h2:=hq e hm
        rw [hvb]; omega
      · rw [if_neg hvb]
        simp only [hT,if_neg hvb] at ht
        exact h.low q hq v hv ht
    · intro v hv hl
      simp only [hL] at hl
      by_cases hvb:v=e.b
      · rw [if_pos hvb] at hl; omega
      · rw [if_neg hvb] at hl
        simp only [hT,if_neg hvb]
        exact h.root v hv hl
    · intro v hv hl
      simp only [hL] at hl
      by_cases hvb:v=e.b
      · subst hvb
        simp only [if_pos]
        refine⟨by simp only [hT,if_pos],by omega,e,hm,by simp only [hL,if_pos],rfl,hT1 _ hta, ?_, ?_⟩
        · by_cases hab:e.a=e.b
          · rw [if_pos hab]; omega
          · rw [if_neg hab]
            rcases Nat.lt_or_ge (r * E.length+j) (ts e.a+E.length) with h1 | h1
            · omega
            · have:=(h.done j e he hta).2 (Nat.le_refl _) h1
              have:=htb this.1
              have:=this
              unfold OKE at *
              omega
        · simp only [hS,if_pos]
          by_cases hab:e.a=e.b
          · left
            rw [if_pos hab]
            have:=htb (hab ▸ hta)
            rw [hab] at this ⊢
            omega
          · right
            rw [if_neg hab,if_neg hab]
            have:=h.tm e.a
            exact⟨rfl,by omega⟩
      · rw [if_neg hvb] at hl
        obtain ⟨h1,h2,e',he',h3,h4,h5,h6,h7⟩:=h.par v hv hl
        simp only [if_neg hvb]
        refine⟨hT1 _ h1,h2,e',he',by simp only [hL,if_neg hvb]; exact h3,h4,hT1 _ h5, ?_, ?_⟩
        · by_cases hab:e'.a=e.b
          · rw [if_pos hab]
            have:=h.tm v
            omega
          · rw [if_neg hab]; exact h6
        · simp only [hS,if_neg hvb]
          by_cases hab:e'.a=e.b
          · rw [if_pos hab]
            have:=htb (hab ▸ h5)
            rw [hab] at h7
            left
            rcases h7 with h7 | h7 <;> omega
          · rw [if_neg hab,if_neg hab]; exact h7
    · intro i e' hi ht
      have hil:i < E.length:=(List.getElem?_eq_some_iff.1 hi).1
      have hup:e'.a ≠ e.b → OKE e' T → OKE e' ⟨T.sum.set e.b (T.sum.getD e.a 0+e.w),T.there.set e.b true,T.last.set e.b e.k,e.b⟩:=by
        intro hne ho
        refine⟨hT1 _ ho.1, ?_⟩
        simp only [hS,if_neg hne]
        split
        · rename_i hbb
          have:=htb (hbb ▸ ho.1)
          have:=ho.2
          rw [hbb] at this
          omega
        · exact ho.2
      by_cases hab:e'.a=e.b
      · simp only [if_pos hab]
        exact⟨fun h1 h2=>by omega,fun h1 h2=>by omega⟩
      · simp only [if_neg hab]
        have ht':T.there.getD e'.a false=true:=by
          simp only [hT,if_neg hab] at ht; exact ht
        have hd:=h.done i e' hi ht'
        refine⟨fun h1 h2=>?_,fun h1 h2=>hup hab (hd.2 (by omega) h2)⟩
        by_cases hij:i=j
        · subst hij
          rw [he] at hi
          obtain rfl:=Option.some.inj hi
          refine⟨by simp only [hT,if_pos], ?_⟩
          simp only [hS,if_pos,if_neg hab]
          omega
        · exact hup hab (hd.1 (by omega) h2)
    · intro v
      have:=h.tm v
      show (if v=e.b then r * E.length+j+1 else ts v)≤_
      split <;> omega

def Fix (E:List Edg) (T:Tr):Prop:=∀ e ∈ E,T.there.getD e.a false=true → OKE e T

theorem BF.fold {E:List Edg} {N src r:Nat} (hE:EOK N E):∀ (suf pre:List Edg) (ts:Nat → Nat) (T:Tr),E=pre ++ suf → BF E N src r pre.length ts T →
    ∃ ts',BF E N src r E.length ts' (suf.foldl relE T)∧((suf.foldl relE T=T∧(∀ e ∈ suf,relC e T=false)) ∨ (∃ v,v < N∧(suf.foldl relE T).ch=((v:Nat):Int)∧r * E.length+1≤ts' v))
  | [],pre,ts,T,hp,h=>⟨ts,by rw [hp,List.append_nil] at *; exact h, .inl ⟨rfl,fun e he=>by cases he⟩⟩
  | e :: suf,pre,ts,T,hp,h=>by
    have he:E[pre.length]? = some e:=by rw [hp]; simp
    have hm:e ∈ E:=List.mem_of_getElem? he
    have hp2:E=(pre ++ [e]) ++ suf:=by rw [hp]; simp
    have hl2:(pre ++ [e]).length=pre.length+1:=by simp
    rw [List.foldl_cons]
    rcases h.step hE he with ⟨hc,hB⟩ | ⟨hc,hB⟩
    · rw [relE_no hc]
      rw [← hl2] at hB
      obtain ⟨ts',hB',hr⟩:=BF.fold hE suf (pre ++ [e]) ts T hp2 hB
      refine⟨ts',hB', ?_⟩
      rcases hr with ⟨h1,h2⟩ | h1
      · refine .inl ⟨h1,fun x hx=>?_⟩
        rcases List.mem_cons.1 hx with rfl | hx
        · exact hc
        · exact h2 x hx
      · exact .inr h1
    · have key : ∀ (suf pre : List Edg) (ts : Nat → Nat) (T : Tr) (v : Nat), v < N → T.ch = (v : Int) → r * E.length + 1 ≤ ts v → E = pre ++ suf → BF E N src r pre.length ts T →
          ∃ ts',BF E N src r E.length ts' (suf.foldl relE T)∧(∃ v,v < N∧(suf.foldl relE T).ch=((v:Nat):Int)∧r * E.length+1≤ts' v):=by
        intro suf
        induction suf with
        | nil=>intro pre ts T v hv hch hts hp h; exact⟨ts,by rw [hp,List.append_nil] at *; exact h,v,hv,hch,hts⟩
        | cons e suf ih =>
          intro pre ts T v hv hch hts hp h
          have he:E[pre.length]? = some e:=by rw [hp]; simp
          have hm:e ∈ E:=List.mem_of_getElem? he
          have hp2:E=(pre ++ [e]) ++ suf:=by rw [hp]; simp
          have hl2:(pre ++ [e]).length=pre.length+1:=by simp
          rw [List.foldl_cons]
          rcases h.step hE he with ⟨hc,hB⟩ | ⟨hc,hB⟩
          · rw [relE_no hc]
            rw [← hl2] at hB
            exact ih _ _ _ v hv hch hts hp2 hB
          · rw [← hl2] at hB
            refine ih _ _ _ e.b (hE e hm).2.1 (by rw [relE_yes hc]) ?_ hp2 hB
            simp only [if_pos]; omega
      rw [← hl2] at hB
      obtain ⟨ts',hB',hr⟩:=key suf _ _ _ e.b (hE e hm).2.1 (by rw [relE_yes hc]) (by simp only [if_pos]; omega) hp2 hB
      exact⟨ts',hB', .inr hr⟩

theorem BF.next {E:List Edg} {N src r:Nat} {ts:Nat → Nat} {T:Tr} (h:BF E N src r E.length ts T):BF E N src (r+1) 0 ts T:=by
  refine⟨h.ls,h.lt,h.ll,h.so,h.low,h.root,h.par,fun i e hi ht=>⟨fun h1 _=>by omega,fun _ h2=>(h.done i e hi ht).1 (List.getElem?_eq_some_iff.1 hi).1 ?_⟩,fun v=>?_⟩
  · rw [Nat.add_mul] at h2; omega
  · have:=h.tm v
    rw [Nat.add_mul]; omega

theorem BF.setCh {E:List Edg} {N src r j:Nat} {ts:Nat → Nat} {T:Tr} (h:BF E N src r j ts T) (c:Int):BF E N src r j ts { T with ch:=c } :=
  ⟨h.ls,h.lt,h.ll,h.so,h.low,h.root,h.par,h.done,h.tm⟩

theorem BF.start {E:List Edg} {n src:Nat} (hs:src≤n):BF E (n+1) src 0 0 (fun _=>0) (startF n src):=by
  have hT:∀ v,((List.replicate (n+1) false).set src true).getD v false=true → v=src:=by
    intro v hv
    rw [getD_set (by simp; omega)] at hv
    split at hv
    · assumption
    · rw [List.getD_eq_getElem?_getD,List.getElem?_replicate] at hv
      split at hv <;> simp at hv
  have hlast:∀ v,(List.replicate (n+1) (-1:Int)).getD v (-1)=-1:=by
    intro v
    rw [List.getD_eq_getElem?_getD,List.getElem?_replicate]
    split <;> rfl
  have h0:∀ v,(List.replicate (n+1) (0:Int)).getD v 0=0:=by
    intro v
    rw [List.getD_eq_getElem?_getD,List.getElem?_replicate]
    split <;> rfl
  refine⟨by simp [startF],by simp [startF],by simp [startF],⟨by omega, ?_, ?_, .inr (hlast src)⟩, ?_, ?_, ?_, ?_, ?_⟩
  · simp only [startF]
    rw [getD_set (by simp; omega),if_pos rfl]
  · simp only [startF,h0]; exact Int.le_refl _
  · intro q _ v _ ht
    have:=hT v ht
    simp only [startF,h0]
    rw [this]; omega
  · intro v _ _
    exact⟨hT v,rfl⟩
  · intro v _ h
    exact absurd (hlast v) h
  · intro i e hi ht
    have:=(List.getElem?_eq_some_iff.1 hi).1
    exact⟨fun h=>by omega,fun _ h=>by omega⟩
  · intro v; exact Nat.zero_le _

theorem BF.rounds {n:Nat} {rev:Nat → Bool} {arcs:List Lnk} {E:List Edg} {N src:Nat} (hEd:E=edgs n rev 0 arcs) (hE:EOK N E):∀ (k r:Nat) (ts:Nat → Nat) (T:Tr),BF E N src r 0 ts T →
    ∃ ts' r',BF E N src r' 0 ts' (roundsF n rev arcs k T).1∧(((roundsF n rev arcs k T).2=-1∧Fix E (roundsF n rev arcs k T).1) ∨
      (∃ v,v < N∧(roundsF n rev arcs k T).2=((v:Nat):Int)∧(r+k) * E.length+1≤ts' v)):=by
  have pass:∀ (r:Nat) (ts:Nat → Nat) (T:Tr),BF E N src r 0 ts T → ∃ ts',BF E N src (r+1) 0 ts' (passF n rev 0 arcs { T with ch:=-1 }) ∧
      (((passF n rev 0 arcs { T with ch:=-1 }).ch=-1∧Fix E (passF n rev 0 arcs { T with ch:=-1 })) ∨ (∃ v,v < N∧(passF n rev 0 arcs { T with ch:=-1 }).ch=((v:Nat):Int)∧r * E.length+1≤ts' v)):=by
    intro r ts T h
    rw [passF_edgs,← hEd]
    obtain ⟨ts',hB,hr⟩:=BF.fold hE E [] ts _ rfl (h.setCh (-1))
    refine⟨ts',hB.next, ?_⟩
    rcases hr with ⟨h1,h2⟩ | h1
    · rw [h1]
      exact .inl ⟨rfl,fun e he ht=>relC_no (h2 e he) ht⟩
    · exact .inr h1
  intro k
  induction k with
  | zero =>
    intro r ts T h
    obtain ⟨ts',hB,hr⟩:=pass r ts T h
    exact⟨ts',r+1,hB,hr⟩
  | succ k ih =>
    intro r ts T h
    obtain ⟨ts',hB,hr⟩:=pass r ts T h
    by_cases hd:(passF n rev 0 arcs { T with ch:=-1 }).ch=-1
    · rw [roundsF_done hd]
      rcases hr with hr | ⟨v,_,hv,_⟩
      · exact⟨ts',r+1,hB, .inl ⟨rfl,hr.2⟩⟩
      · rw [hd] at hv; omega
    · rw [roundsF_next hd]
      obtain ⟨ts2,r2,hB2,hr2⟩:=ih (r+1) ts' _ hB
      refine⟨ts2,r2,hB2, ?_⟩
      rw [show r+(k+1)=r+1+k from by omega]
      exact hr2

theorem pigeon:∀ (N:Nat) (f:Nat → Nat),(∀ i,i≤N → f i < N) → ∃ i j,i < j∧j≤N∧f i=f j
  | 0,f,h=>by have:=h 0 (Nat.le_refl _); omega
  | N+1,f,h=>by
    by_cases hx:∃ i,i < N+1∧f i=f (N+1)
    · obtain ⟨i,hi,he⟩:=hx
      exact⟨i,N+1,hi,Nat.le_refl _,he⟩
    · have hne:∀ i,i < N+1 → f i ≠ f (N+1):=fun i hi he=>hx ⟨i,hi,he⟩
      obtain ⟨i,j,hij,hj,he⟩:=pigeon N (fun i=>if f i=N then f (N+1) else f i) (fun i hi=>by
        show (if f i=N then f (N+1) else f i) < N
        have h1:=h i (by omega)
        have h2:=h (N+1) (Nat.le_refl _)
        have h3:=hne i (by omega)
        split <;> omega)
      refine⟨i,j,hij,by omega, ?_⟩
      have h1:=hne i (by omega)
      have h2:=hne j (by omega)
      have he:(if f i=N then f (N+1) else f i)=(if f j=N then f (N+1) else f j):=he
      split at he <;> split at he <;> omega

def backF (G:Int → Edg) (T:Tr) (v:Nat):Nat:=(G (T.last.getD v (-1))).a
def backN (G:Int → Edg) (T:Tr) (v:Nat):Nat → Nat
  | 0=>v
  | j+1=>backF G T (backN G T v j)

theorem BF.back {E:List Edg} {N src r j:Nat} {ts:Nat → Nat} {T:Tr} {G:Int → Edg} (h:BF E N src r j ts T) (hG:∀ e ∈ E,G e.k=e) {v:Nat} (hv:v < N) (hl:T.last.getD v (-1) ≠ -1) :
    G (T.last.getD v (-1)) ∈ E∧(G (T.last.getD v (-1))).k=T.last.getD v (-1)∧(G (T.last.getD v (-1))).b=v∧T.there.getD (backF G T v) false=true∧ts v≤ts (backF G T v)+E.length ∧
      (T.sum.getD (backF G T v) 0+(G (T.last.getD v (-1))).w < T.sum.getD v 0 ∨ (T.sum.getD (backF G T v) 0+(G (T.last.getD v (-1))).w=T.sum.getD v 0∧ts (backF G T v) < ts v)):=by
  obtain ⟨h1,h2,e,he,h3,h4,h5,h6,h7⟩:=h.par v hv hl
  unfold backF
  rw [← h3,hG e he]
  exact⟨he,rfl,h4,h5,h6,h7⟩

theorem BF.last_ne {E:List Edg} {N src r j:Nat} {ts:Nat → Nat} {T:Tr} (h:BF E N src r j ts T) {v:Nat} (hv:v < N) (ht:1≤ts v):T.last.getD v (-1) ≠ -1:=fun hl=>by
  have:=(h.root v hv hl).2
  omega

theorem BF.chain {E:List Edg} {N src r j:Nat} {ts:Nat → Nat} {T:Tr} {G:Int → Edg} (h:BF E N src r j ts T) (hE:EOK N E) (hG:∀ e ∈ E,G e.k=e) {v R:Nat} (hv:v < N) (ht:R * E.length+1≤ts v) :
    ∀ m,m≤R → backN G T v m < N∧(R - m) * E.length+1≤ts (backN G T v m)∧T.last.getD (backN G T v m) (-1) ≠ -1:=by
  intro m
  induction m with
  | zero=>intro _; exact⟨hv,ht,h.last_ne hv (by show 1≤ts v; omega)⟩
  | succ m ih =>
    intro hm
    obtain ⟨h1,h2,h3⟩:=ih (by omega)
    obtain ⟨g1,g2,g3,g4,g5,g6⟩:=h.back hG h1 h3
    have hn:backN G T v (m+1) < N:=(hE _ g1).1
    have e:(R - m) * E.length=(R - (m+1)) * E.length+E.length:=by
      rw [show R - m=(R - (m+1))+1 from by omega,Nat.add_mul]; omega
    have ht2:(R - (m+1)) * E.length+1≤ts (backN G T v (m+1)):=by
      show _≤ts (backF G T (backN G T v m))
      omega
    exact⟨hn,ht2,h.last_ne hn (by omega)⟩

theorem BF.fall {E:List Edg} {N src r j:Nat} {ts:Nat → Nat} {T:Tr} {G:Int → Edg} (h:BF E N src r j ts T) (hG:∀ e ∈ E,G e.k=e) {v i m:Nat} {Q:Nat → Int} (hall:∀ k,i≤k → k < i+m → backN G T v k < N∧T.last.getD (backN G T v k) (-1) ≠ -1)
    (hq:∀ k,i≤k → k < i+m → Q k≤Q (k+1)+(G (T.last.getD (backN G T v k) (-1))).w) (hm:1≤m) :
    T.sum.getD (backN G T v (i+m)) 0 - Q (i+m) < T.sum.getD (backN G T v i) 0 - Q i ∨
    (T.sum.getD (backN G T v (i+m)) 0 - Q (i+m)=T.sum.getD (backN G T v i) 0 - Q i∧ts (backN G T v (i+m)) < ts (backN G T v i)):=by
  induction m with
  | zero=>omega
  | succ m ih =>
    obtain ⟨h1,h2⟩:=hall (i+m) (by omega) (by omega)
    obtain ⟨g1,g2,g3,g4,g5,g6⟩:=h.back hG h1 h2
    have hqq:=hq (i+m) (by omega) (by omega)
    have e:backN G T v (i+(m+1))=backF G T (backN G T v (i+m)):=rfl
    rw [e]
    have e2:Q (i+(m+1))=Q (i+m+1):=rfl
    rw [e2]
    rcases Nat.eq_zero_or_pos m with rfl | hm
    · simp only [Nat.add_zero] at *
      rcases g6 with g6 | g6 <;> omega
    · have:=ih (fun k hk1 hk2=>hall k hk1 (by omega)) (fun k hk1 hk2=>hq k hk1 (by omega)) hm
      rcases g6 with g6 | g6 <;> rcases this with this | this <;> omega

def Pot (q:Nat → Int) (E:List Edg):Prop:=∀ e ∈ E,q e.b≤q e.a+e.w

theorem BF.nopot {E:List Edg} {N src r j:Nat} {ts:Nat → Nat} {T:Tr} {G:Int → Edg} (h:BF E N src r j ts T) (hE:EOK N E) (hG:∀ e ∈ E,G e.k=e) {v R:Nat} (hv:v < N) (ht:R * E.length+1≤ts v) (hR:N≤R)
    {q:Nat → Int} (hq:Pot q E):False:=by
  have hc:=h.chain hE hG hv ht
  obtain ⟨i,k,hik,hk,he⟩:=pigeon N (backN G T v) (fun i hi=>(hc i (by omega)).1)
  have:=h.fall hG (v:=v) (i:=i) (m:=k - i) (Q:=fun x=>q (backN G T v x)) (fun x hx1 hx2=>⟨(hc x (by omega)).1,(hc x (by omega)).2.2⟩) (fun x hx1 hx2=>by
    obtain ⟨g1,g2,g3,g4,g5,g6⟩:=h.back hG (hc x (by omega)).1 (hc x (by omega)).2.2
    have:=hq _ g1
    rw [g3] at this
    exact this) (by omega)
  rw [show i+(k - i)=k from by omega,he] at this
  omega

end Proofs
end Go

/-
  Plain lemmas,part 6: numbers that no arc contradicts,and what follows for relaxing. Conditions: none; definitions and plain lemmas.
-/
namespace Go
namespace Proofs

def keyE (n:Nat) (arcs:List Lnk) (k:Int):Edg:=match arcs[k.toNat / 2]? with
  | some l=>if k.toNat % 2=0 then ⟨k,plc n l.f,plc n l.t,l.m⟩ else ⟨k,plc n l.t,plc n l.f,-l.m⟩
  | none=>⟨k,0,0,0⟩

theorem edgs_mem {n:Nat} {rev:Nat → Bool} {e:Edg}:∀ {xs:List Lnk} {i:Nat},e ∈ edgs n rev i xs ↔
    ∃ j l,xs[j]? = some l∧(e=⟨2 * ((i+j:Nat):Int),plc n l.f,plc n l.t,l.m⟩ ∨ (rev (i+j)=true∧e=⟨2 * ((i+j:Nat):Int)+1,plc n l.t,plc n l.f,-l.m⟩))
  | [],i=>by simp [edgs]
  | x :: xs,i=>by
    simp only [edgs,List.mem_cons,List.mem_append]
    rw [edgs_mem (xs:=xs) (i:=i+1)]
    constructor
    · rintro (h | h | ⟨j,l,hj,h⟩)
      · exact⟨0,x,rfl, .inl h⟩
      · cases hr:rev i with
        | false=>rw [hr] at h; simp at h
        | true =>
          rw [hr] at h
          simp at h
          exact⟨0,x,rfl, .inr ⟨hr,h⟩⟩
      · refine⟨j+1,l,by simpa using hj, ?_⟩
        rw [show i+(j+1)=i+1+j from by omega]
        exact h
    · rintro ⟨j,l,hj,h⟩
      cases j with
      | zero =>
        simp at hj
        subst hj
        rcases h with h | ⟨hr,h⟩
        · exact .inl h
        · refine .inr (.inl ?_)
          have hr:rev i=true:=hr
          rw [hr]; simp; exact h
      | succ j =>
        refine .inr (.inr ⟨j,l,by simpa using hj, ?_⟩)
        rw [show i+1+j=i+(j+1) from by omega]
        exact h

theorem edgs_key {n:Nat} {rev:Nat → Bool} {arcs:List Lnk}:∀ e ∈ edgs n rev 0 arcs,keyE n arcs e.k=e:=by
  intro e he
  obtain ⟨j,l,hj,h | ⟨_,h⟩⟩:=edgs_mem.1 he
  · subst h
    unfold keyE
    have h1:(2 * ((0+j:Nat):Int)).toNat=2 * j:=by omega
    simp only [h1]
    rw [show 2 * j / 2=j from by omega,hj]
    simp only [show 2 * j % 2=0 from by omega,if_true]
  · subst h
    unfold keyE
    have h1:(2 * ((0+j:Nat):Int)+1).toNat=2 * j+1:=by omega
    simp only [h1]
    rw [show (2 * j+1) / 2=j from by omega,hj]
    simp only [show (2 * j+1) % 2=1 from by omega]
    rfl

theorem edgs_ok {n:Nat} {rev:Nat → Bool} {arcs:List Lnk} (h:∀ l ∈ arcs,ArcOK n l):EOK (n+1) (edgs n rev 0 arcs):=by
  intro e he
  obtain ⟨j,l,hj,h1⟩:=edgs_mem.1 he
  obtain ⟨h2,h3,h4⟩:=h l (List.mem_of_getElem? hj)
  have:=plc_le h2.2
  have:=plc_le h3.2
  rcases h1 with h1 | ⟨_,h1⟩ <;> subst h1 <;> refine⟨?_, ?_, ?_⟩ <;> simp only <;> omega

def PotL (n:Nat) (q:Nat → Int) (arcs:List Lnk):Prop:=∀ l ∈ arcs,q (plc n l.t)≤q (plc n l.f)+l.m

abbrev noR:Nat → Bool:=fun _=>false

theorem potL_iff {n:Nat} {q:Nat → Int} {arcs:List Lnk}:PotL n q arcs ↔ Pot q (edgs n noR 0 arcs):=by
  constructor
  · intro h e he
    obtain ⟨j,l,hj,h1 | ⟨h1,_⟩⟩:=edgs_mem.1 he
    · subst h1
      exact h l (List.mem_of_getElem? hj)
    · cases h1
  · intro h l hl
    obtain ⟨j,hj⟩:=List.getElem?_of_mem hl
    exact h _ (edgs_mem.2 ⟨j,l,hj, .inl rfl⟩)

theorem rounds_pot {n:Nat} {rev:Nat → Bool} {arcs:List Lnk} {q:Nat → Int} {src k:Nat} (hok:∀ l ∈ arcs,ArcOK n l) (hq:Pot q (edgs n rev 0 arcs)) (hs:src≤n) (hk:n+1≤k) :
    (roundsF n rev arcs k (startF n src)).2=-1∧Fix (edgs n rev 0 arcs) (roundsF n rev arcs k (startF n src)).1∧∃ ts r,BF (edgs n rev 0 arcs) (n+1) src r 0 ts (roundsF n rev arcs k (startF n src)).1:=by
  obtain ⟨ts,r,hB,hr⟩:=BF.rounds (n:=n) (rev:=rev) (arcs:=arcs) rfl (edgs_ok (rev:=rev) hok) k 0 _ _ (BF.start hs)
  rcases hr with hr | ⟨v,hv,_,ht⟩
  · exact⟨hr.1,hr.2,ts,r,hB⟩
  · rw [Nat.zero_add] at ht
    exact (hB.nopot (edgs_ok hok) edgs_key hv ht hk hq).elim

theorem rounds_fix {n:Nat} {rev:Nat → Bool} {arcs:List Lnk} {src k:Nat} (hok:∀ l ∈ arcs,ArcOK n l) (hs:src≤n) (h:(roundsF n rev arcs k (startF n src)).2=-1) :
    Fix (edgs n rev 0 arcs) (roundsF n rev arcs k (startF n src)).1∧∃ ts r,BF (edgs n rev 0 arcs) (n+1) src r 0 ts (roundsF n rev arcs k (startF n src)).1:=by
  obtain ⟨ts,r,hB,hr⟩:=BF.rounds (n:=n) (rev:=rev) (arcs:=arcs) rfl (edgs_ok (rev:=rev) hok) k 0 _ _ (BF.start hs)
  rcases hr with hr | ⟨v,hv,he,ht⟩
  · exact⟨hr.2,ts,r,hB⟩
  · rw [h] at he; omega

theorem fix_pot {E:List Edg} {T:Tr} (hf:Fix E T) (hall:∀ e ∈ E,T.there.getD e.a false=true):Pot (fun v=>T.sum.getD v 0) E:=fun e he=>(hf e he (hall e he)).2

end Proofs
end Go

/-
  Plain lemmas,part 7: relaxing as the reference implementation does it,in one list,with a far number for what is not reached; it comes to the same. Conditions: none; definitions and plain lemmas.
-/
namespace Go
namespace Proofs

end Proofs
end Go

namespace Go.Proofs
open Go.Sx

theorem allF_len (bs:List (Int × Int)) (ls:List Lnk):(allF bs ls).length=2 * bs.length+ls.length:=by
 rw [allF,List.length_append,boxLinks_length]

end Go.Proofs

/-
  Plain lemmas,part 8: sizes in the reference implementation's relaxing. Conditions: none; definitions and plain lemmas.
-/
namespace Go
namespace Proofs

def Hub (n:Nat) (arcs:List Lnk):Prop:=∀ v,v < n → (∃ l ∈ arcs,plc n l.f=n∧plc n l.t=v)∧(∃ l ∈ arcs,plc n l.f=v∧plc n l.t=n)

theorem Hub.all {n:Nat} {rev:Nat → Bool} {arcs:List Lnk} {T:Tr} {src:Nat} (h:Hub n arcs) (hf:Fix (edgs n rev 0 arcs) T) (hs:src≤n) (hT:T.there.getD src false=true):∀ v,v≤n → T.there.getD v false=true:=by
  have arc:∀ l ∈ arcs,T.there.getD (plc n l.f) false=true → T.there.getD (plc n l.t) false=true:=by
    intro l hl ht
    obtain ⟨j,hj⟩:=List.getElem?_of_mem hl
    exact (hf _ (edgs_mem.2 ⟨j,l,hj, .inl rfl⟩) ht).1
  have h0:T.there.getD n false=true:=by
    rcases Nat.lt_or_ge src n with hlt | hge
    · obtain ⟨_,l,hl,h1,h2⟩:=h src hlt
      have:=arc l hl (by rw [h1]; exact hT)
      rwa [h2] at this
    · rwa [show src=n from by omega] at hT
  intro v hv
  rcases Nat.lt_or_ge v n with hlt | hge
  · obtain ⟨⟨l,hl,h1,h2⟩,_⟩:=h v hlt
    have:=arc l hl (by rw [h1]; exact h0)
    rwa [h2] at this
  · rw [show v=n from by omega]; exact h0

theorem rounds_hub {n:Nat} {rev:Nat → Bool} {arcs:List Lnk} {src k:Nat} (hok:∀ l ∈ arcs,ArcOK n l) (hub:Hub n arcs) (hs:src≤n) (h:(roundsF n rev arcs k (startF n src)).2=-1) :
    (∀ v,v≤n → (roundsF n rev arcs k (startF n src)).1.there.getD v false=true)∧Pot (fun v=>(roundsF n rev arcs k (startF n src)).1.sum.getD v 0) (edgs n rev 0 arcs):=by
  obtain ⟨hf,ts,r,hB⟩:=rounds_fix hok hs h
  have hall:=hub.all hf hs hB.so.2.1
  exact⟨hall,fix_pot hf fun e he=>hall _ (by have:=(edgs_ok hok e he).1; omega)⟩

end Proofs
end Go

namespace Go.Proofs
open Go.Sx

theorem getD_of {xs:List Int} {i:Nat} (h:i < xs.length):xs.getD i 0=xs[i]:=by
 rw [List.getD_eq_getElem?_getD,List.getElem?_eq_getElem h]; rfl

end Go.Proofs

namespace Go.Proofs
open Go.Sx

theorem allF_le {bs:List (Int × Int)} {ls:List Lnk} (hs:SysOK bs ls):(allF bs ls).length≤1680:=by
 have:=allF_len bs ls
 have:=hs.nb
 have:=hs.nl
 omega

theorem graphF_zero (bs:List (Int × Int)) (ls:List Lnk):graphF bs ls 0=allF bs ls:=by
 unfold graphF
 exact List.filter_eq_self.2 fun l _=>rfl

theorem boxLinks_has {bs:List (Int × Int)}:∀ {v i:Nat} (h:i < bs.length),(⟨-1,(v+i:Nat),bs[i].2,0⟩:Lnk) ∈ boxLinks v bs∧(⟨(v+i:Nat),-1,-bs[i].1,0⟩:Lnk) ∈ boxLinks v bs:=by
 induction bs with
 | nil=>intro v i h; simp at h
 | cons b r ih =>
  intro v i h
  cases i with
  | zero=>simp [boxLinks]
  | succ i =>
   have:=ih (v:=v+1) (i:=i) (by simpa using h)
   simp only [boxLinks,List.mem_cons,List.getElem_cons_succ]
   rw [show v+(i+1)=v+1+i from by omega]
   exact⟨.inr (.inr this.1), .inr (.inr this.2)⟩

theorem hub_graph (bs:List (Int × Int)) (ls:List Lnk) (k:Int):Hub bs.length (graphF bs ls k):=by
 intro v hv
 have hb:=boxLinks_has (bs:=bs) (v:=0) hv
 rw [Nat.zero_add] at hb
 have hk:∀ l:Lnk,l.i=0 → keeps k l=true:=by
  intro l hl
  unfold keeps
  rw [hl]
  by_cases h:k=0
  ·simp [h]
  ·have:(0:Int) ≠ k:=fun h2=>h h2.symm
   simp [this]
 refine⟨⟨_,List.mem_filter.2 ⟨List.mem_append.2 (.inl hb.1),hk _ rfl⟩, ?_, ?_⟩,⟨_,List.mem_filter.2 ⟨List.mem_append.2 (.inl hb.2),hk _ rfl⟩, ?_, ?_⟩⟩
 ·rfl
 ·simp only [plc]; rw [if_neg (by omega)]; omega
 ·simp only [plc]; rw [if_neg (by omega)]; omega
 ·rfl

end Go.Proofs

/-
  Plain lemmas,part 11: the way back from a place to the start,where relaxing has ended. Conditions: none; definitions and plain lemmas.
-/
namespace Go
namespace Proofs

theorem key_befF {n:Nat} {rev:Nat → Bool} {arcs:List Lnk} {k:Nat} {e:Edg} (he:e ∈ edgs n rev 0 arcs) (hk:e.k=(k:Int)) :
    keyE n arcs k=e∧befF n arcs k=some e.a∧∃ l,arcs[k / 2]? = some l∧((k % 2=0∧e.a=plc n l.f∧e.b=plc n l.t∧e.w=l.m) ∨ (k % 2=1∧rev (k / 2)=true∧e.a=plc n l.t∧e.b=plc n l.f∧e.w=-l.m)):=by
  refine⟨by rw [← hk]; exact edgs_key e he, ?_⟩
  obtain ⟨j,l,hj,h | ⟨hr,h⟩⟩:=edgs_mem.1 he
  · subst h
    have hk2:k=2 * j:=by have:2 * ((0+j:Nat):Int)=(k:Int):=hk; omega
    have e1:k / 2=j:=by omega
    have e2:k % 2=0:=by omega
    unfold befF
    rw [e1,hj,e2]
    exact⟨rfl,l,rfl, .inl ⟨rfl,rfl,rfl,rfl⟩⟩
  · subst h
    have hk2:k=2 * j+1:=by have:2 * ((0+j:Nat):Int)+1=(k:Int):=hk; omega
    have e1:k / 2=j:=by omega
    have e2:k % 2=1:=by omega
    unfold befF
    rw [e1,hj,e2]
    rw [Nat.zero_add] at hr
    exact⟨rfl,l,rfl, .inr ⟨rfl,hr,rfl,rfl,rfl⟩⟩

structure Tree (n:Nat) (arcs:List Lnk) (E:List Edg) (src:Nat) (T:Tr) (ts:Nat → Nat):Prop where
  bf:∃ r,BF E (n+1) src r 0 ts T
  fix:Fix E T
  all:∀ v,v≤n → T.there.getD v false=true
  src0:T.sum.getD src 0=0∧T.last.getD src (-1)=-1

theorem tree_of {n:Nat} {rev:Nat → Bool} {arcs:List Lnk} {src k:Nat} (hok:∀ l ∈ arcs,ArcOK n l) (hub:Hub n arcs) (hs:src≤n) (h:(roundsF n rev arcs k (startF n src)).2=-1) :
    ∃ ts,Tree n arcs (edgs n rev 0 arcs) src (roundsF n rev arcs k (startF n src)).1 ts:=by
  obtain ⟨hf,ts,r,hB⟩:=rounds_fix hok hs h
  obtain ⟨hall,hp⟩:=rounds_hub hok hub hs h
  have hlow:=hB.low (fun v=>(roundsF n rev arcs k (startF n src)).1.sum.getD v 0) hp src hB.so.1 hB.so.2.1
  have h0:=hB.so.2.2.1
  refine⟨ts,⟨r,hB⟩,hf,hall,by omega, ?_⟩
  rcases hB.so.2.2.2 with h1 | h1
  · omega
  · exact h1

theorem Tree.pot {n:Nat} {arcs:List Lnk} {E:List Edg} {src:Nat} {T:Tr} {ts:Nat → Nat} (h:Tree n arcs E src T ts) (hE:EOK (n+1) E):Pot (fun v=>T.sum.getD v 0) E :=
  fix_pot h.fix fun e he=>h.all _ (by have:=(hE e he).1; omega)

theorem Tree.low {n:Nat} {arcs:List Lnk} {E:List Edg} {src:Nat} {T:Tr} {ts:Nat → Nat} (h:Tree n arcs E src T ts) {q:Nat → Int} (hq:Pot q E) {v:Nat} (hv:v≤n):q v≤q src+T.sum.getD v 0:=by
  obtain ⟨r,hB⟩:=h.bf
  exact hB.low q hq v (by omega) (h.all v hv)

theorem nodup_len {N:Nat} {l:List Nat} (hn:l.Nodup) (hl:∀ x ∈ l,x < N):l.length≤N:=by
  rcases Nat.lt_or_ge N l.length with h | h
  · exfalso
    obtain ⟨i,j,hij,hj,he⟩:=pigeon N (fun i=>l.getD i 0) (fun i hi=>by
      show l.getD i 0 < N
      have:i < l.length:=by omega
      rw [List.getD_eq_getElem?_getD,List.getElem?_eq_getElem this]
      exact hl _ (List.getElem_mem this))
    have hi':i < l.length:=by omega
    have hj':j < l.length:=by omega
    simp only [List.getD_eq_getElem?_getD,List.getElem?_eq_getElem hi',List.getElem?_eq_getElem hj',Option.getD_some] at he
    have:=List.pairwise_iff_getElem.1 hn i j hi' hj' hij
    exact this he
  · exact h

end Proofs
end Go

namespace Go.Proofs
open Go.Sx

end Go.Proofs

namespace Go.Proofs
open Go.Sx

def valI (pt:List Int) (i:Int):Int:=if i < 0 then 0 else max (-1099511627776) (min 1099511627776 (pt.getD i.toNat 0))

def violF (pt:List Int) (l:Lnk):Bool:=decide (l.m < valI pt l.t - valI pt l.f)

def allowsF (bs:List (Int × Int)) (ls:List Lnk) (pt:List Int):Lnk × Bool :=
 if pt.length=bs.length then (match (allF bs ls).find? (violF pt) with
  | some l=>(l,false)
  | none=>(⟨0,0,0,0⟩,true)) else (⟨0,0,0,0⟩,false)

def atF (pt:List Int) (i:Int):Int:=if i < 0 then 0 else pt.getD i.toNat 0

end Go.Proofs

namespace Go.Proofs
open Go.Sx

structure RevSt (xs ys:List Lnk) (i:Nat):Prop where
 len:ys.length=xs.length
 get:∀ k,k < xs.length → ys[k]? = if k < i ∨ xs.length - i≤k then xs[xs.length - 1 - k]? else xs[k]?

theorem RevSt.zero (xs:List Lnk):RevSt xs xs 0:=⟨rfl,fun k hk=>by rw [if_neg (by omega)]⟩

theorem RevSt.done {xs ys:List Lnk} {i:Nat} (h:RevSt xs ys i) (hi:¬ (i:Int) < (xs.length:Int) - 1 - i):ys=xs.reverse:=by
 refine List.ext_getElem? fun k=>?_
 rcases Nat.lt_or_ge k xs.length with hk | hk
 ·rw [List.getElem?_reverse hk,h.get k hk]
  split
  ·rfl
  ·congr 1; omega
 ·rw [List.getElem?_eq_none (by rw [h.len]; exact hk),List.getElem?_eq_none (by simp; exact hk)]

theorem RevSt.step {xs ys:List Lnk} {i j:Nat} (h:RevSt xs ys i) (hij:i < j) (hj:j+1+i=xs.length) (h1:i < ys.length) (h2:j < ys.length):RevSt xs ((ys.set i ys[j]).set j ys[i]) (i+1):=by
 refine⟨by simp [h.len],fun k hk=>?_⟩
 have gi:=h.get i (by omega)
 have gj:=h.get j (by omega)
 rw [if_neg (by omega),List.getElem?_eq_getElem h1] at gi
 rw [if_neg (by omega),List.getElem?_eq_getElem h2] at gj
 rw [List.getElem?_set,List.getElem?_set]
 by_cases hkj:j=k
 ·subst hkj
  rw [if_pos rfl,if_pos (by simp; exact h2),if_pos (by omega),gi]
  congr 1; omega
 ·rw [if_neg hkj]
  by_cases hki:i=k
  ·subst hki
   rw [if_pos rfl,if_pos h1,if_pos (by omega),gj]
   congr 1; omega
  ·rw [if_neg hki,h.get k hk]
   by_cases hc:k < i ∨ xs.length - i≤k
   ·rw [if_pos hc,if_pos (by omega)]
   ·rw [if_neg hc,if_neg (by omega)]

theorem reverse_t (xs:List Lnk) (hb:xs.length≤1000000):Triple Tryz.prog 262 [.c (.s 0 0 xs.length 4)] [(0,true, .arr (aLink xs))] 1 (.tup []) [(0,true, .arr (aLink xs.reverse))]:=by
 refine triple_of tB_ok Tryz.func262 rfl Tryz.call262 rfl ?_
 intro ρ w hH
 conv=>whnf
 refine⟨(xs.length:Int) - 1,wrapId (z:=(xs.length:Int) - 1) ⟨by omega,by omega⟩, ?_⟩
 conv=>whnf
 refine loop_step tB_ok (G:=Nat × List Lnk) 0 [] (fun g=>[(2,iv .i64 g.1),(3,iv .i64 ((xs.length:Int) - 1 - g.1))]) (fun g=>[(0,true, .arr (aLink g.2))]) (fun g=>g.1≤xs.length∧RevSt xs g.2 g.1) (fun g=>xs.length - g.1) ?_
 conv=>whnf
 refine⟨⟨(0,xs),⟨Nat.zero_le _,RevSt.zero xs⟩, ?_⟩, ?_⟩
 ·conv=>whnf
  repeat'(first|exact trivial|exact rfl|refine And.intro ?_ ?_|((conv=>whnf);first|exact trivial|exact rfl|refine And.intro ?_ ?_|omega))
  all_goals (show (xs.length:Int) - 1=(xs.length:Int) - 1 - ((0:Nat):Int); omega)
 rintro ⟨i,ys⟩ ⟨hi,hR⟩ ρ1 t1 hρ1
 have hi:i≤xs.length:=hi
 have hR:RevSt xs ys i:=hR
 dsimp only
 have hyl:=hR.len
 conv=>whnf
 refine⟨fun hc=>?_,fun hc=>?_⟩
 ·have hlt:(i:Int) < (xs.length:Int) - 1 - i:=of_decide_eq_true (show decide ((i:Int) < (xs.length:Int) - 1 - i)=true from hc)
  obtain ⟨j,hj⟩:∃ j:Nat,(xs.length:Int) - 1 - i=j:=⟨((xs.length:Int) - 1 - i).toNat,by omega⟩
  have hij:i < j:=by omega
  have hjl:j+1+i=xs.length:=by omega
  have h1:i < ys.length:=by omega
  have h2:j < ys.length:=by omega
  have hst:=hR.step hij hjl h1 h2
  conv=>whnf
  refine⟨j,hj,by omega,h2, ?_⟩
  conv=>whnf
  refine⟨i,rfl,by omega,h1, ?_⟩
  conv=>whnf
  refine⟨i,rfl,by omega,h1,ys[j],rfl, ?_⟩
  conv=>whnf
  refine⟨j,hj,by omega,by show j < (ys.set i ys[j]).length; rw [List.length_set]; exact h2,ys[i],rfl, ?_⟩
  conv=>whnf
  refine⟨(i:Int)+1,wrapId (z:=(i:Int)+1) ⟨by omega,by omega⟩, ?_⟩
  conv=>whnf
  refine⟨(xs.length:Int) - 1 - i - 1,wrapId (z:=(xs.length:Int) - 1 - i - 1) ⟨by omega,by omega⟩, ?_⟩
  refine⟨(i+1,(ys.set i ys[j]).set j ys[i]),⟨by show i+1≤xs.length; omega,hst⟩,by show xs.length - (i+1) < xs.length - i; omega, ?_⟩
  conv=>whnf
  refine⟨rfl, ?_⟩
  conv=>whnf
  repeat'(first|exact trivial|exact rfl|refine And.intro ?_ ?_|((conv=>whnf);first|exact trivial|exact rfl|refine And.intro ?_ ?_|omega))
  all_goals (show (xs.length:Int) - 1 - i - 1=(xs.length:Int) - 1 - ((i+1:Nat):Int); omega)
 ·have hlt:¬ (i:Int) < (xs.length:Int) - 1 - i:=of_decide_eq_false (show decide ((i:Int) < (xs.length:Int) - 1 - i)=false from hc)
  have he:=hR.done hlt
  subst he
  conv=>whnf
  repeat'(first|exact trivial|exact rfl|refine And.intro ?_ ?_|((conv=>whnf);first|exact trivial|exact rfl|refine And.intro ?_ ?_|omega))

end Go.Proofs

/-
  Plain lemmas,part 9: the IDs of links,in increasing order,each once,as the reference implementation finds them. Conditions: none; definitions and plain lemmas.
-/
namespace Go
namespace Proofs

end Proofs
end Go

/-
  Plain lemmas,part 10: sorting and dropping equal neighbours gives an increasing list with the same members. Conditions: none; plain lemmas.
-/
namespace Go
namespace Proofs

end Proofs
end Go

namespace Go
namespace Sx

end Sx
end Go

namespace Go.Proofs
open Go.Sx

end Go.Proofs

namespace Go.Proofs
open Go.Sx

end Go.Proofs

namespace Go.Proofs
open Go.Sx

theorem calm_pot {bs:List (Int × Int)} {ls:List Lnk} (hs:SysOK bs ls) (h:Calm bs ls 0):∃ q:Nat → Int,∀ k,PotL bs.length q (graphF bs ls k):=by
 have hp:=(rounds_hub (rev:=noR) (k:=bs.length+2) (graphF_ok hs 0) (hub_graph bs ls 0) (Nat.le_refl _) h).2
 have hL:=potL_iff.2 hp
 refine⟨fun v=>(shortF bs.length noR (graphF bs ls 0) bs.length).1.sum.getD v 0,fun k l hl=>hL l ?_⟩
 rw [graphF_zero]
 exact (List.mem_filter.1 hl).1

end Go.Proofs

namespace Go.Proofs
open Go.Sx

def witF (T:Tr) (n:Nat):List Int:=(List.range n).map fun v=>T.sum.getD v 0 - T.sum.getD n 0
theorem valI_at {pt:List Int} {i:Int} (h:-1099511627776≤atF pt i∧atF pt i≤1099511627776):valI pt i=atF pt i:=by
 unfold valI atF at *
 split
 ·rfl
 ·rename_i hi
  rw [if_neg hi] at h
  omega

end Go.Proofs

namespace Go.Proofs
open Go.Sx

theorem calm_tree {bs:List (Int × Int)} {ls:List Lnk} (hs:SysOK bs ls) (hcalm:Calm bs ls 0) (k:Int) {src:Nat} (hsrc:src≤bs.length) :
  (shortF bs.length noRev (graphF bs ls k) src).2=-1∧∃ ts,Tree bs.length (graphF bs ls k) (edgs bs.length noR 0 (graphF bs ls k)) src (shortF bs.length noRev (graphF bs ls k) src).1 ts:=by
 obtain ⟨q,hq⟩:=calm_pot hs hcalm
 have hr:=rounds_pot (rev:=noR) (k:=bs.length+2) (graphF_ok hs k) (potL_iff.1 (hq k)) hsrc (by omega)
 exact⟨hr.1,tree_of (rev:=noR) (graphF_ok hs k) (hub_graph bs ls k) hsrc hr.1⟩

end Go.Proofs

/-
  Plain lemmas,part 13: a flow over the arcs of a system: what it brings to each place,and how a path changes it. Conditions: none; definitions and plain lemmas.
-/
namespace Go
namespace Proofs

def ind (p:Prop) [Decidable p]:Int:=if p then 1 else 0

end Proofs
end Go

/-
  Plain lemmas,part 14: the greatest value of a form is found: the flow is carried along cheapest paths until nothing is left. Conditions: none; definitions and plain lemmas.
-/
namespace Go
namespace Proofs

end Proofs
end Go

/-
  Plain lemmas,part 15: the greatest value of a form is what the program's function answers: a flow,its cost,an allowed point at which the form has this value. Conditions: none; definitions and plain lemmas.
-/
namespace Go
namespace Proofs

end Proofs
end Go

namespace Go.Proofs
open Go.Sx

end Go.Proofs

namespace Go.Proofs
open Go.Sx

end Go.Proofs

/-
  Plain lemmas,part 16: the value of a form at a point,its coefficients,and what uses of links show. Conditions: none; definitions and plain lemmas.
-/
namespace Go
namespace Proofs

end Proofs
end Go

namespace Go.Proofs
open Go.Sx

end Go.Proofs

namespace Go.Proofs
open Go.Sx

end Go.Proofs

namespace Go.Proofs
open Go.Sx

end Go.Proofs

namespace Go.Proofs
open Go.Sx

theorem plc_at {n:Nat} {pt:List Int} {i:Int} (hl:pt.length=n) (hi:-1≤i∧i < n):pt.getD (plc n i) 0=atF pt i:=by
 unfold plc atF
 by_cases h:i < 0
 ·rw [if_pos h,if_pos h,List.getD_eq_getElem?_getD,List.getElem?_eq_none (by omega)]; rfl
 ·rw [if_neg h,if_neg h]

theorem box_arcs {bs:List (Int × Int)} {ls:List Lnk} (hs:SysOK bs ls) {v:Nat} (hv:v < bs.length) :
  (∃ l ∈ allF bs ls,plc bs.length l.f=bs.length∧plc bs.length l.t=v∧l.m≤16777216)∧(∃ l ∈ allF bs ls,plc bs.length l.f=v∧plc bs.length l.t=bs.length∧l.m≤16777216):=by
 have hb:=boxLinks_has (bs:=bs) (v:=0) hv
 rw [Nat.zero_add] at hb
 have hbx:=hs.box _ (List.getElem_mem hv)
 refine⟨⟨_,List.mem_append.2 (.inl hb.1),rfl, ?_,hbx.2.2⟩,⟨_,List.mem_append.2 (.inl hb.2), ?_,rfl,by show -bs[v].1≤16777216; omega⟩⟩
 ·simp only [plc]; rw [if_neg (by omega)]; omega
 ·simp only [plc]; rw [if_neg (by omega)]; omega

theorem pot_bd {bs:List (Int × Int)} {ls:List Lnk} {pt:List Int} (hs:SysOK bs ls) (hl:pt.length=bs.length) (hp:PotL bs.length (fun v=>pt.getD v 0) (allF bs ls)):∀ x ∈ pt,-16777216≤x∧x≤16777216:=by
 intro x hx
 obtain ⟨v,hv,rfl⟩:=List.mem_iff_getElem.1 hx
 obtain ⟨⟨l,hl1,a1,a2,a3⟩,⟨m,hm1,b1,b2,b3⟩⟩:=box_arcs (ls:=ls) hs (show v < bs.length by omega)
 have p1:pt.getD (plc bs.length l.t) 0≤pt.getD (plc bs.length l.f) 0+l.m:=hp l hl1
 have p2:pt.getD (plc bs.length m.t) 0≤pt.getD (plc bs.length m.f) 0+m.m:=hp m hm1
 have z:pt.getD bs.length 0=0:=by rw [List.getD_eq_getElem?_getD,List.getElem?_eq_none (by omega)]; rfl
 rw [a1,a2,z,getD_of hv] at p1
 rw [b1,b2,z,getD_of hv] at p2
 omega

theorem allows_iff {bs:List (Int × Int)} {ls:List Lnk} {pt:List Int} (hs:SysOK bs ls):(allowsF bs ls pt).2=true ↔ pt.length=bs.length∧PotL bs.length (fun v=>pt.getD v 0) (allF bs ls):=by
 unfold allowsF
 have hok:=allF_ok hs
 by_cases hl:pt.length=bs.length
 ·rw [if_pos hl]
  have hv:(∀ l ∈ allF bs ls,violF pt l=false) ↔ PotL bs.length (fun v=>pt.getD v 0) (allF bs ls):=by
   constructor
   ·intro h
    have hc:∀ v,v < bs.length → -16777216≤atF pt v∧atF pt v≤16777216:=by
     intro v hv
     obtain ⟨h1,h2⟩:=boxLinks_has (bs:=bs) (v:=0) hv
     have hbx:=hs.box _ (List.getElem_mem hv)
     have g1:=h _ (List.mem_append.2 (.inl h1))
     have g2:=h _ (List.mem_append.2 (.inl h2))
     rw [Nat.zero_add] at g1 g2
     have e0:valI pt (-1)=0:=rfl
     have e1:valI pt ((v:Nat):Int)=max (-1099511627776) (min 1099511627776 (pt.getD v 0)):=by
      unfold valI; rw [if_neg (by omega),Int.toNat_natCast]
     have e2:atF pt ((v:Nat):Int)=pt.getD v 0:=by unfold atF; rw [if_neg (by omega),Int.toNat_natCast]
     have g1:decide (bs[v].2 < valI pt ((v:Nat):Int) - valI pt (-1))=false:=g1
     have g2:decide (-bs[v].1 < valI pt (-1) - valI pt ((v:Nat):Int))=false:=g2
     rw [e0,e1,decide_eq_false_iff_not] at g1 g2
     rw [e2]
     omega
    have hat:∀ i:Int,-1≤i∧i < bs.length → valI pt i=atF pt i:=fun i hi=>by
     refine valI_at ?_
     by_cases h0:i < 0
     ·unfold atF; rw [if_pos h0]; omega
     ·have:=hc i.toNat (by omega)
      rw [Int.toNat_of_nonneg (by omega)] at this
      omega
    intro l hl2
    obtain ⟨o1,o2,_⟩:=hok l hl2
    have g:=h l hl2
    unfold violF at g
    rw [hat _ o1,hat _ o2] at g
    simp only [decide_eq_false_iff_not] at g
    show pt.getD (plc bs.length l.t) 0≤pt.getD (plc bs.length l.f) 0+l.m
    rw [plc_at hl o1,plc_at hl o2]
    omega
   ·intro hp l hl2
    obtain ⟨o1,o2,_⟩:=hok l hl2
    have hb:=pot_bd hs hl hp
    have hbd:∀ i:Int,-1≤i∧i < bs.length → valI pt i=atF pt i:=fun i hi=>by
     refine valI_at ?_
     unfold atF
     by_cases h0:i < 0
     ·rw [if_pos h0]; omega
     ·rw [if_neg h0]
      have:=hb _ (getD_mem (show i.toNat < pt.length by omega))
      omega
    have g:pt.getD (plc bs.length l.t) 0≤pt.getD (plc bs.length l.f) 0+l.m:=hp l hl2
    rw [plc_at hl o1,plc_at hl o2] at g
    unfold violF
    rw [hbd _ o1,hbd _ o2,decide_eq_false_iff_not]
    omega
  rw [← hv]
  constructor
  ·intro h
   refine⟨hl,fun l hl2=>?_⟩
   cases hf:(allF bs ls).find? (violF pt) with
   | none =>
    rw [List.find?_eq_none] at hf
    simpa using hf l hl2
   | some x=>rw [hf] at h; cases h
  ·intro h
   have:(allF bs ls).find? (violF pt)=none:=List.find?_eq_none.2 fun l hl2=>by rw [h.2 l hl2]; simp
   rw [this]
 ·rw [if_neg hl]
  exact⟨fun h=>by simp at h,fun h=>absurd h.1 hl⟩

end Go.Proofs

/-
  Plain lemmas,part 19: the limits of part 8 for greater systems (52 places,300 arcs). Conditions: none; plain lemmas.
-/
namespace Go
namespace Proofs

end Proofs
end Go

namespace Go.Proofs
open Go.Sx

theorem calm_ofS {bs:List (Int × Int)} {ls:List Lnk} (hs:SysOK bs ls) {q:Nat → Int} (hq:PotL bs.length q (graphF bs ls 0)):Calm bs ls 0 :=
 (rounds_pot (rev:=noR) (k:=bs.length+2) (graphF_ok hs 0) (potL_iff.1 hq) (Nat.le_refl _) (by omega)).1

structure Pnt (bs:List (Int × Int)) (ls:List Lnk) (p:List Int):Prop where
 len:p.length=bs.length
 box:∀ (v:Nat) (b:Int × Int),bs[v]? = some b → b.1≤p.getD v 0∧p.getD v 0≤b.2
 lnk:∀ l ∈ ls,atF p l.t - atF p l.f≤l.m

theorem boxLinks_cases {l:Lnk}:∀ {bs:List (Int × Int)} {v:Nat},l ∈ boxLinks v bs → ∃ i b,bs[i]? = some b∧(l=⟨-1,(v+i:Nat),b.2,0⟩ ∨ l=⟨(v+i:Nat),-1,-b.1,0⟩)
 | [],_,h=>by simp [boxLinks] at h
 | b :: r,v,h=>by
  simp only [boxLinks,List.mem_cons] at h
  rcases h with rfl | rfl | h
  ·exact⟨0,b,rfl, .inl rfl⟩
  ·exact⟨0,b,rfl, .inr rfl⟩
  ·obtain ⟨i,b',h1,h2⟩:=boxLinks_cases h
   refine⟨i+1,b',by simpa using h1, ?_⟩
   rw [show v+(i+1)=v+1+i by omega]
   exact h2

theorem pnt_pot {bs:List (Int × Int)} {ls:List Lnk} {p:List Int} (hs:SysOK bs ls):Pnt bs ls p ↔ p.length=bs.length∧PotL bs.length (fun v=>p.getD v 0) (allF bs ls):=by
 constructor
 ·rintro ⟨h1,h2,h3⟩
  refine⟨h1,fun l hl=>?_⟩
  obtain ⟨o1,o2,o3⟩:=allF_ok hs l hl
  have hx:atF p l.t - atF p l.f≤l.m:=by
   rcases List.mem_append.1 hl with hl | hl
   ·obtain ⟨i,b,hb,h | h⟩:=boxLinks_cases hl
    ·subst h
     have:=h2 i b hb
     simp only [atF,Nat.zero_add]
     rw [if_neg (by omega),if_pos (by omega),Int.toNat_natCast]
     omega
    ·subst h
     have:=h2 i b hb
     simp only [atF,Nat.zero_add]
     rw [if_neg (show ¬ ((i:Nat):Int) < 0 by omega),if_pos (by omega),Int.toNat_natCast]
     omega
   ·exact h3 l hl
  have e1:=plc_at h1 o1
  have e2:=plc_at h1 o2
  show p.getD (plc bs.length l.t) 0≤p.getD (plc bs.length l.f) 0+l.m
  rw [e1,e2]; omega
 ·rintro ⟨h1,h2⟩
  have key:∀ l ∈ allF bs ls,atF p l.t - atF p l.f≤l.m:=by
   intro l hl
   obtain ⟨o1,o2,o3⟩:=allF_ok hs l hl
   have h:=h2 l hl
   have h:p.getD (plc bs.length l.t) 0≤p.getD (plc bs.length l.f) 0+l.m:=h
   rw [plc_at h1 o1,plc_at h1 o2] at h
   omega
  refine⟨h1,fun v b hb=>?_,fun l hl=>key l (List.mem_append.2 (.inr hl))⟩
  obtain ⟨hv,rfl⟩:=List.getElem?_eq_some_iff.1 hb
  obtain ⟨b1,b2⟩:=boxLinks_has (bs:=bs) (v:=0) hv
  have k1:=key _ (List.mem_append.2 (.inl b1))
  have k2:=key _ (List.mem_append.2 (.inl b2))
  simp only [atF,Nat.zero_add] at k1 k2
  rw [if_neg (by omega),if_pos (by omega),Int.toNat_natCast] at k1
  rw [if_pos (by omega),if_neg (by omega),Int.toNat_natCast] at k2
  omega

theorem pnt_allows {bs:List (Int × Int)} {ls:List Lnk} {p:List Int} (hs:SysOK bs ls):Pnt bs ls p ↔ (allowsF bs ls p).2=true:=(pnt_pot hs).trans (allows_iff hs).symm

theorem pnt_calm {bs:List (Int × Int)} {ls:List Lnk} {p:List Int} (hs:SysOK bs ls) (h:Pnt bs ls p):Calm bs ls 0:=by
 have:=((pnt_pot hs).1 h).2
 rw [← graphF_zero] at this
 exact calm_ofS hs this

theorem treeS {bs:List (Int × Int)} {ls:List Lnk} (hs:SysOK bs ls) (hc:Calm bs ls 0) {a:Int} (ha:a < bs.length) :
  ∃ ts,Tree bs.length (graphF bs ls 0) (edgs bs.length noR 0 (graphF bs ls 0)) (plc bs.length a) (shortF bs.length noRev (graphF bs ls 0) (plc bs.length a)).1 ts :=
 (calm_tree hs hc 0 (plc_le ha)).2

theorem most_up {bs:List (Int × Int)} {ls:List Lnk} {p:List Int} (hs:SysOK bs ls) (h:Pnt bs ls p) {a b:Int} (ha:-1≤a∧a < bs.length) (hb:-1≤b∧b < bs.length) :
  atF p b - atF p a≤mostF bs.length (graphF bs ls 0) a b:=by
 obtain ⟨hl,hq⟩:=(pnt_pot hs).1 h
 rw [← graphF_zero] at hq
 obtain ⟨ts,hT⟩:=treeS hs (calm_ofS hs hq) ha.2
 have:=hT.low (potL_iff.1 hq) (plc_le hb.2)
 have this:p.getD (plc bs.length b) 0≤p.getD (plc bs.length a) 0+mostF bs.length (graphF bs ls 0) a b:=this
 rw [plc_at hl ha,plc_at hl hb] at this
 omega

theorem getD_rangeS (n:Nat) (f:Nat → Int) (v:Nat) (hv:v≤n):((List.range n).map fun u=>f u - f n).getD v 0=f v - f n:=by
 rcases Nat.lt_or_eq_of_le hv with h | h
 ·rw [List.getD_eq_getElem?_getD,List.getElem?_map,List.getElem?_range h]; rfl
 ·rw [List.getD_eq_getElem?_getD,List.getElem?_eq_none (by simp; omega),h]; simp

theorem wit_pnt {bs:List (Int × Int)} {ls:List Lnk} (hs:SysOK bs ls) (hc:Calm bs ls 0) {a b:Int} (ha:-1≤a∧a < bs.length) (hb:-1≤b∧b < bs.length) :
  Pnt bs ls (witF (shortF bs.length noRev (graphF bs ls 0) (plc bs.length a)).1 bs.length) ∧
  atF (witF (shortF bs.length noRev (graphF bs ls 0) (plc bs.length a)).1 bs.length) b - atF (witF (shortF bs.length noRev (graphF bs ls 0) (plc bs.length a)).1 bs.length) a=mostF bs.length (graphF bs ls 0) a b:=by
 obtain ⟨ts,hT⟩:=treeS hs hc ha.2
 have hq:=potL_iff.2 (hT.pot (edgs_ok (graphF_ok hs 0)))
 have hm:mostF bs.length (graphF bs ls 0) a b=(shortF bs.length noRev (graphF bs ls 0) (plc bs.length a)).1.sum.getD (plc bs.length b) 0:=rfl
 have h0:=hT.src0.1
 rw [hm]
 generalize (shortF bs.length noRev (graphF bs ls 0) (plc bs.length a)).1=T at *
 have hl:(witF T bs.length).length=bs.length:=by simp [witF]
 have hg:∀ v,v≤bs.length → (witF T bs.length).getD v 0=T.sum.getD v 0 - T.sum.getD bs.length 0:=fun v hv=>getD_rangeS _ (fun v=>T.sum.getD v 0) v hv
 have hpl:∀ {i:Int},i < bs.length → plc bs.length i≤bs.length:=fun {i} hi=>plc_le hi
 refine⟨(pnt_pot hs).2 ⟨hl,fun l hm=>?_⟩, ?_⟩
 ·obtain ⟨h1,h2,_⟩:=allF_ok hs l hm
  rw [← graphF_zero] at hm
  have:=hq l hm
  have this:T.sum.getD (plc bs.length l.t) 0≤T.sum.getD (plc bs.length l.f) 0+l.m:=this
  show (witF T bs.length).getD (plc bs.length l.t) 0≤(witF T bs.length).getD (plc bs.length l.f) 0+l.m
  rw [hg _ (hpl (by omega)),hg _ (hpl (by omega))]
  omega
 ·rw [← plc_at hl ha,← plc_at hl hb,hg _ (hpl ha.2),hg _ (hpl hb.2),h0]
  omega

theorem most_att2 {bs:List (Int × Int)} {ls:List Lnk} (hs:SysOK bs ls) (hc:Calm bs ls 0) {a b:Int} (ha:-1≤a∧a < bs.length) (hb:-1≤b∧b < bs.length) :
  ∃ p,Pnt bs ls p∧atF p b - atF p a=mostF bs.length (graphF bs ls 0) a b:=⟨_,wit_pnt hs hc ha hb⟩

theorem calm_pnt {bs:List (Int × Int)} {ls:List Lnk} (hs:SysOK bs ls):Calm bs ls 0 ↔ ∃ p,Pnt bs ls p :=
 ⟨fun h=>⟨_,(wit_pnt hs h (a:=-1) (b:=-1) ⟨by omega,by omega⟩ ⟨by omega,by omega⟩).1⟩,fun ⟨_,h⟩=>pnt_calm hs h⟩

end Go.Proofs

