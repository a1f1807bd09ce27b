/-
  A part of the proof that a law answers true: lemmas of a symbolic walk, plain functions, or contracts of the functions walked (Rg, Rh). Conditions: none.
-/
import Derived.Test.YtagedjfjcnemoaaGreatPart22
import Derived.Test.YtagedjfjcnemoaaGreatPart14
set_option maxRecDepth 100000
set_option linter.unusedVariables false
set_option linter.unusedSimpArgs false
namespace Go.Proofs
open Go.Sx

theorem nil_at {P:Program} {F:FuncId} {rest:List SV} {k np:Nat} {o:SO} {H:Heap} {r:SV} {post:Heap} {pre suf:List SC} {sz:Nat} (h:Triple P F (.agg (pre ++ .s k 0 0 sz :: suf) :: rest) (H ++ [(k,false,o)]) np r post) (ho:nilO o) (hnp:np=k+1)
  (hk:allLt k (nmsH H)=true) (hp:∀ c ∈ pre ++ suf,∀ j ∈ c.nms,j < k) (hr:nmsV rest=[]):Triple P F (.agg (pre ++ .v (.slice none 0 0) :: suf) :: rest) H k r post :=
 Triple.nilK h ho hnp hk (by
  intro ρ vals hv
  have hrest:∀ (l:List SV) (vs:List Value),nmsV l=[] → relVs ρ l vs → relVs (upd ρ k ⟨0,0,0⟩) l vs:=by
   intro l
   induction l with
   | nil=>intro vs _ h; cases vs with
    | nil=>trivial
    | cons a b=>exact h.elim
   | cons s l ih =>
    intro vs hl h
    cases vs with
    | nil=>exact h.elim
    | cons a b =>
     have h1:s.nms=[]:=(List.append_eq_nil_iff.1 hl).1
     have h2:nmsV l=[]:=(List.append_eq_nil_iff.1 hl).2
     exact⟨SV.rel_agree (fun j hj=>by have:=SV.uses_nms.1 hj; rw [h1] at this; cases this) h.1,ih b h2 h.2⟩
  match vals,hv with
  | v :: vs,⟨⟨xs,e,hx⟩,h2⟩ =>
   refine⟨⟨xs,e, ?_⟩,hrest _ _ hr h2⟩
   have go:∀ (pre:List SC) (l:List Value),(∀ c ∈ pre ++ suf,∀ j ∈ c.nms,j < k) → relL ρ (pre ++ .v (.slice none 0 0) :: suf) l → relL (upd ρ k ⟨0,0,0⟩) (pre ++ .s k 0 0 sz :: suf) l:=by
    intro pre
    induction pre with
    | nil =>
     intro l hp hl
     match l,hl with
     | w :: ws,⟨h3,h4⟩ =>
      have h3:w=.slice none 0 0:=h3
      subst h3
      refine⟨⟨none,by rw [upd_eq]; rfl,by rw [upd_eq]; exact Nat.le_refl _,fun h=>by rw [upd_eq] at h; cases h⟩,relL_agree (fun c hc j hj=>upd_ne (Nat.ne_of_lt (hp c (by simpa using hc) j hj))) h4⟩
    | cons c r ih =>
     intro l hp hl
     match l,hl with
     | w :: ws,⟨h3,h4⟩=>exact⟨SC.rel_agree (fun j hj=>upd_ne (Nat.ne_of_lt (hp c (by simp) j hj))) h3,ih ws (fun d hd=>hp d (by simp at hd ⊢; exact .inr hd)) h4⟩
   exact go pre xs.toList hp hx)

theorem bInts_t (xs ys:List Int) (hb:xs.length≤1000000):Triple Tryz.prog 25 [.c (.s 0 0 xs.length 1), .c (.s 1 0 ys.length 1)] [(0,false, .arr (aInt xs)),(1,false, .arr (aInt ys))] 2 (bv (xs == ys)) []:=by
 refine triple_of tB_ok Tryz.func25 rfl Tryz.call25 rfl ?_
 intro ρ w hH
 conv=>whnf
 refine⟨fun h=>?_,fun h=>?_⟩
 ·conv=>whnf
  refine⟨(?_:false=(xs == ys)),trivial⟩
  have:xs ≠ ys:=by rintro rfl; simp at h
  simp [this]
 ·conv=>whnf
  refine loop_step tB_ok (G:=Nat) 0 [] (fun i=>[(13,iv .i64 i)]) (fun _=>[]) (fun i=>i≤xs.length∧xs.take i=ys.take i) (fun i=>xs.length - i) ?_
  conv=>whnf
  have hl:xs.length=ys.length:=by simp at h; omega
  refine⟨⟨0,⟨Nat.zero_le _,by simp⟩, ?_⟩, ?_⟩
  ·conv=>whnf
   repeat'(first|exact trivial|exact rfl|refine And.intro ?_ ?_|((conv=>whnf);first|exact trivial|exact rfl|refine And.intro ?_ ?_|omega))
  ·rintro i ⟨hi,he⟩ ρ1 t1 hρ1
   conv=>whnf
   refine⟨fun h1=>?_,fun h1=>?_⟩
   ·have h1:i < xs.length:=by simpa using h1
    have h2:i < ys.length:=by omega
    conv=>whnf
    refine⟨i,rfl,h1,h1, ?_⟩
    conv=>whnf
    refine⟨i,rfl,h2,h2, ?_⟩
    conv=>whnf
    refine⟨fun h3=>?_,fun h3=>?_⟩
    ·have h3:xs[i] ≠ ys[i]:=by simpa using (show (xs[i] != ys[i])=true from h3)
     have hne:¬ xs=ys:=by rintro rfl; exact h3 rfl
     conv=>whnf
     exact⟨(by simp [hne]:false=(xs == ys)),trivial⟩
    ·have h3:xs[i]=ys[i]:=by simpa using (show (xs[i] != ys[i])=false from h3)
     conv=>whnf
     refine⟨_,wrapId ⟨by omega,by omega⟩, ?_⟩
     refine⟨i+1,⟨h1, ?_⟩,by show xs.length - (i+1) < xs.length - i; omega, ?_⟩
     ·rw [take_snoc h1,take_snoc h2,he,h3]
     conv=>whnf
     refine⟨rfl, ?_⟩
     conv=>whnf
     repeat'(first|exact trivial|exact rfl|refine And.intro ?_ ?_|((conv=>whnf);first|exact trivial|exact rfl|refine And.intro ?_ ?_|omega))
   ·have hie:i=xs.length:=by simp at h1; omega
    subst hie
    rw [List.take_length,hl,List.take_length] at he
    subst he
    conv=>whnf
    exact⟨(by simp:true=(xs == xs)),trivial⟩

theorem scale_t:Triple Tryz.prog 76 [] [] 0 (svBal exSc) []:=by
 refine triple_of tB_ok Tryz.func76 rfl Tryz.call76 rfl ?_
 intro ρ w hH
 conv=>whnf
 repeat'(first|exact trivial|exact rfl|refine And.intro ?_ ?_|((conv=>whnf);first|exact trivial|exact rfl|refine And.intro ?_ ?_|omega))
theorem gross_t:Triple Tryz.prog 77 [] [] 0 (svThg exGr) []:=by
 refine triple_of tB_ok Tryz.func77 rfl Tryz.call77 rfl ?_
 intro ρ w hH
 conv=>whnf
 repeat'(first|exact trivial|exact rfl|refine And.intro ?_ ?_|((conv=>whnf);first|exact trivial|exact rfl|refine And.intro ?_ ?_|omega))
theorem tare_t:Triple Tryz.prog 78 [] [] 0 (svThg exTa) []:=by
 refine triple_of tB_ok Tryz.func78 rfl Tryz.call78 rfl ?_
 intro ρ w hH
 conv=>whnf
 repeat'(first|exact trivial|exact rfl|refine And.intro ?_ ?_|((conv=>whnf);first|exact trivial|exact rfl|refine And.intro ?_ ?_|omega))

theorem ex_sml1:Sml exR1:=⟨by decide,by decide,by decide,by decide⟩
theorem ex_sml2:Sml exR2:=⟨by decide,by decide,by decide,by decide⟩
theorem ex_sml3:Sml exR3:=⟨by decide,by decide,by decide,by decide⟩
theorem ex_sml4:Sml exR4:=⟨by decide,by decide,by decide,by decide⟩
theorem ex_sml5:Sml exR5:=⟨by decide,by decide,by decide,by decide⟩
theorem ex_sml6:Sml exR6:=⟨by decide,by decide,by decide,by decide⟩

abbrev nilA (nb nw:Nat):SV:=.agg [.s 0 0 nb 6, .v (.slice none 0 0), .v (.slice none 0 0), .s 1 0 nw 8]
abbrev nilB (nb nc nw:Nat):SV:=.agg [.s 0 0 nb 6, .s 2 0 nc 5, .v (.slice none 0 0), .s 1 0 nw 8]

theorem nilNs {F:FuncId} {rest:List SV} {R:SV} {post:Heap} {bs:List Bal} {cs:List Chk} {ws:List Wgh} (h:Triple Tryz.prog F (rdA ⟨bs,cs,[],ws⟩ :: rest) (rdH ⟨bs,cs,[],ws⟩) 4 R post) (hr:nmsV rest=[]) :
  Triple Tryz.prog F (nilB bs.length cs.length ws.length :: rest) [(0,false, .arr (aBal bs)),(1,false, .arr (aWgh ws)),(2,false, .arr (aChk cs))] 3 R post :=
 nil_at (k:=3) (o:=.arr (aNtc [])) (pre:=[.s 0 0 bs.length 6, .s 2 0 cs.length 5]) (suf:=[.s 1 0 ws.length 8]) (H:=[(0,false, .arr (aBal bs)),(1,false, .arr (aWgh ws)),(2,false, .arr (aChk cs))]) h rfl rfl rfl (by simp [SC.nms]) hr

theorem nilCs {F:FuncId} {rest:List SV} {R:SV} {post:Heap} {bs:List Bal} {ws:List Wgh} (h:Triple Tryz.prog F (rdA ⟨bs,[],[],ws⟩ :: rest) (rdH ⟨bs,[],[],ws⟩) 4 R post) (hr:nmsV rest=[]) :
  Triple Tryz.prog F (nilA bs.length ws.length :: rest) [(0,false, .arr (aBal bs)),(1,false, .arr (aWgh ws))] 2 R post :=
 nil_at (k:=2) (o:=.arr (aChk [])) (pre:=[.s 0 0 bs.length 6]) (suf:=[.v (.slice none 0 0), .s 1 0 ws.length 8]) (H:=[(0,false, .arr (aBal bs)),(1,false, .arr (aWgh ws))]) (nilNs h hr) rfl rfl rfl (by simp [SC.nms]) hr

theorem pfxW {F:FuncId} {args:List SV} {H:Heap} {np:Nat} {R:SV} {post:Heap} {bs:List Bal} {w v:Wgh} (h:Triple Tryz.prog F args ([(0,false, .arr (aBal bs))] ++ (1,false, .arr (aWgh [w])) :: H) np R post) :
  Triple Tryz.prog F args ([(0,false, .arr (aBal bs))] ++ (1,false, .arr (aWgh [w,v])) :: H) np R post :=
 Triple.pfx (H1:=[(0,false, .arr (aBal bs))]) (H:=H) 1 (o:=.arr (aWgh [w,v])) h

theorem sanity_t:Triple Tryz.prog 16 [] [] 0 (bv true) []:=by
 have c1:=mass_t exR1 exGr ex_sml1
 rw [exT1] at c1
 have c1:=nilCs c1 rfl
 have c2:=drifted_t exR1 ⟨1,5⟩ ex_sml1
 rw [exT2] at c2
 have c2:=nilCs c2 rfl
 have c3:=foreseeV_t exR1 ⟨0,1,6,exGr,0⟩ ex_sml1
 rw [exT3] at c3
 have c3:=nilCs c3 rfl
 have c4:=loss_t exR2 exGr exTa ex_sml2
 rw [exT4] at c4
 have c4:=nilCs c4 rfl
 have c5:=drifted_t exR3 ⟨1,5⟩ ex_sml3
 rw [exT5] at c5
 have c5:=pfxW (v:=⟨13,1,5,exTa,40⟩) (nilNs c5 rfl)
 have c6:=drifted_t exR4 ⟨1,5⟩ ex_sml4
 rw [exT6] at c6
 have c6:=pfxW (v:=⟨13,1,5,exTa,40⟩) (nilNs c6 rfl)
 have c7:=mass_t exR5 exGr ex_sml5
 rw [exT7] at c7
 have c7:=pfxW (v:=⟨13,1,5,exTa,40⟩) c7
 have c8:=needed_t exR5 exGr ex_sml5
 have e8:neededF exR5 exGr=([11,12,14],0):=by unfold neededF; rw [exT10,exT7]; rfl
 rw [e8] at c8
 have c8:=pfxW (v:=⟨13,1,5,exTa,40⟩) c8
 have c9:=mass_t exR6 exGr ex_sml6
 rw [exT8] at c9
 have c9:=pfxW (v:=⟨13,1,5,exTa,40⟩) c9
 have ca:=suspects_t exR6 ex_sml6
 have ea:suspectsF exR6=([12,14],0):=by unfold suspectsF; rw [exT11]; decide +kernel
 rw [ea] at ca
 have ca:=pfxW (v:=⟨13,1,5,exTa,40⟩) ca
 have cb:=showing_t exSc 500 3
 have eb:showingF exSc 500 3=((495,499),0):=by decide +kernel
 rw [eb] at cb
 refine triple_of tB_ok Tryz.func16 rfl Tryz.call16 rfl ?_
 intro ρ w hH
 conv=>whnf
 refine call_step scale_t rfl rfl ?_
 conv=>whnf
 refine⟨?_, ?_, ?_⟩
 iterate 2 · repeat'(first|exact trivial|exact rfl|refine And.intro ?_ ?_|((conv=>whnf);first|exact trivial|exact rfl|refine And.intro ?_ ?_|omega))
 conv=>whnf
 refine bs_step tB_ok (aBal [exSc]) rfl rfl ?_
 conv=>whnf
 refine⟨⟨rfl,(by repeat'(first|exact trivial|exact rfl|refine And.intro ?_ ?_|((conv=>whnf);first|exact trivial|exact rfl|refine And.intro ?_ ?_|omega)))⟩, ?_⟩
 conv=>whnf
 refine call_step gross_t rfl rfl ?_
 conv=>whnf
 refine⟨?_, ?_, ?_⟩
 iterate 2 · repeat'(first|exact trivial|exact rfl|refine And.intro ?_ ?_|((conv=>whnf);first|exact trivial|exact rfl|refine And.intro ?_ ?_|omega))
 conv=>whnf
 refine bs_step tB_ok (aWgh [⟨11,1,5,exGr,500⟩]) rfl rfl ?_
 conv=>whnf
 refine⟨⟨rfl,(by repeat'(first|exact trivial|exact rfl|refine And.intro ?_ ?_|((conv=>whnf);first|exact trivial|exact rfl|refine And.intro ?_ ?_|omega)))⟩, ?_⟩
 conv=>whnf
 refine call_step gross_t rfl rfl ?_
 conv=>whnf
 refine⟨?_, ?_, ?_⟩
 iterate 2 · repeat'(first|exact trivial|exact rfl|refine And.intro ?_ ?_|((conv=>whnf);first|exact trivial|exact rfl|refine And.intro ?_ ?_|omega))
 conv=>whnf
 refine call_step c1 rfl rfl ?_
 conv=>whnf
 refine⟨?_, ?_, ?_⟩
 iterate 2 · repeat'(first|exact trivial|exact rfl|refine And.intro ?_ ?_|((conv=>whnf);first|exact trivial|exact rfl|refine And.intro ?_ ?_|omega))
 conv=>whnf
 refine call_step c2 rfl rfl ?_
 conv=>whnf
 refine⟨?_, ?_, ?_⟩
 iterate 2 · repeat'(first|exact trivial|exact rfl|refine And.intro ?_ ?_|((conv=>whnf);first|exact trivial|exact rfl|refine And.intro ?_ ?_|omega))
 conv=>whnf
 refine call_step gross_t rfl rfl ?_
 conv=>whnf
 refine⟨?_, ?_, ?_⟩
 iterate 2 · repeat'(first|exact trivial|exact rfl|refine And.intro ?_ ?_|((conv=>whnf);first|exact trivial|exact rfl|refine And.intro ?_ ?_|omega))
 conv=>whnf
 refine call_step c3 rfl rfl ?_
 conv=>whnf
 refine⟨?_, ?_, ?_⟩
 iterate 2 · repeat'(first|exact trivial|exact rfl|refine And.intro ?_ ?_|((conv=>whnf);first|exact trivial|exact rfl|refine And.intro ?_ ?_|omega))
 conv=>whnf
 refine⟨fun hc=>absurd hc (by simp),fun hc=>?_⟩
 conv=>whnf
 refine⟨fun hc=>absurd hc (by simp),fun hc=>?_⟩
 conv=>whnf
 refine⟨fun hc=>absurd hc (by simp),fun hc=>?_⟩
 conv=>whnf
 refine⟨fun hc=>absurd hc (by simp),fun hc=>?_⟩
 conv=>whnf
 refine⟨fun hc=>absurd hc (by simp),fun hc=>?_⟩
 conv=>whnf
 refine⟨fun hc=>absurd hc (by simp),fun hc=>?_⟩
 conv=>whnf
 refine call_step tare_t rfl rfl ?_
 conv=>whnf
 refine⟨?_, ?_, ?_⟩
 iterate 2 · repeat'(first|exact trivial|exact rfl|refine And.intro ?_ ?_|((conv=>whnf);first|exact trivial|exact rfl|refine And.intro ?_ ?_|omega))
 conv=>whnf
 refine bs_step tB_ok (aWgh [⟨13,1,5,exTa,40⟩]) rfl rfl ?_
 conv=>whnf
 refine⟨⟨rfl,(by repeat'(first|exact trivial|exact rfl|refine And.intro ?_ ?_|((conv=>whnf);first|exact trivial|exact rfl|refine And.intro ?_ ?_|omega)))⟩, ?_⟩
 conv=>whnf
 refine app_step tB_ok (aWgh [⟨11,1,5,exGr,500⟩]) [(⟨13,1,5,exTa,40⟩:Wgh)] (fun _=>rfl) rfl rfl rfl rfl ?_
 conv=>whnf
 refine⟨⟨rfl,rfl,Nat.le_refl _,Nat.le_refl _,by decide⟩, ?_⟩
 conv=>whnf
 refine call_step gross_t rfl rfl ?_
 conv=>whnf
 refine⟨?_, ?_, ?_⟩
 iterate 2 · repeat'(first|exact trivial|exact rfl|refine And.intro ?_ ?_|((conv=>whnf);first|exact trivial|exact rfl|refine And.intro ?_ ?_|omega))
 conv=>whnf
 refine call_step tare_t rfl rfl ?_
 conv=>whnf
 refine⟨?_, ?_, ?_⟩
 iterate 2 · repeat'(first|exact trivial|exact rfl|refine And.intro ?_ ?_|((conv=>whnf);first|exact trivial|exact rfl|refine And.intro ?_ ?_|omega))
 conv=>whnf
 refine call_step c4 rfl rfl ?_
 conv=>whnf
 refine⟨?_, ?_, ?_⟩
 iterate 2 · repeat'(first|exact trivial|exact rfl|refine And.intro ?_ ?_|((conv=>whnf);first|exact trivial|exact rfl|refine And.intro ?_ ?_|omega))
 conv=>whnf
 refine⟨fun hc=>absurd hc (by simp),fun hc=>?_⟩
 conv=>whnf
 refine⟨fun hc=>absurd hc (by simp),fun hc=>?_⟩
 conv=>whnf
 refine⟨1,rfl,by decide, ?_⟩
 conv=>whnf
 refine⟨Nat.zero_le _, ?_⟩
 conv=>whnf
 refine bs_step tB_ok (aChk [⟨12,1,3,100,97⟩]) rfl rfl ?_
 conv=>whnf
 refine⟨⟨rfl,(by repeat'(first|exact trivial|exact rfl|refine And.intro ?_ ?_|((conv=>whnf);first|exact trivial|exact rfl|refine And.intro ?_ ?_|omega)))⟩, ?_⟩
 conv=>whnf
 refine call_step c5 rfl rfl ?_
 conv=>whnf
 refine⟨?_, ?_, ?_⟩
 iterate 2 · repeat'(first|exact trivial|exact rfl|refine And.intro ?_ ?_|((conv=>whnf);first|exact trivial|exact rfl|refine And.intro ?_ ?_|omega))
 conv=>whnf
 refine⟨0,rfl,by decide,by decide,⟨12,1,5,100,97⟩,rfl, ?_⟩
 conv=>whnf
 refine call_step c6 rfl rfl ?_
 conv=>whnf
 refine⟨?_, ?_, ?_⟩
 iterate 2 · repeat'(first|exact trivial|exact rfl|refine And.intro ?_ ?_|((conv=>whnf);first|exact trivial|exact rfl|refine And.intro ?_ ?_|omega))
 conv=>whnf
 refine⟨fun hc=>absurd hc (by simp),fun hc=>?_⟩
 conv=>whnf
 refine⟨fun hc=>absurd hc (by simp),fun hc=>?_⟩
 conv=>whnf
 refine⟨fun hc=>absurd hc (by simp),fun hc=>?_⟩
 conv=>whnf
 refine⟨fun hc=>absurd hc (by simp),fun hc=>?_⟩
 conv=>whnf
 refine bs_step tB_ok (aNtc [⟨14,1,0,9,4,30⟩]) rfl rfl ?_
 conv=>whnf
 refine⟨⟨rfl,(by repeat'(first|exact trivial|exact rfl|refine And.intro ?_ ?_|((conv=>whnf);first|exact trivial|exact rfl|refine And.intro ?_ ?_|omega)))⟩, ?_⟩
 conv=>whnf
 refine call_step gross_t rfl rfl ?_
 conv=>whnf
 refine⟨?_, ?_, ?_⟩
 iterate 2 · repeat'(first|exact trivial|exact rfl|refine And.intro ?_ ?_|((conv=>whnf);first|exact trivial|exact rfl|refine And.intro ?_ ?_|omega))
 conv=>whnf
 refine call_step c7 rfl rfl ?_
 conv=>whnf
 refine⟨?_, ?_, ?_⟩
 iterate 2 · repeat'(first|exact trivial|exact rfl|refine And.intro ?_ ?_|((conv=>whnf);first|exact trivial|exact rfl|refine And.intro ?_ ?_|omega))
 conv=>whnf
 refine call_step gross_t rfl rfl ?_
 conv=>whnf
 refine⟨?_, ?_, ?_⟩
 iterate 2 · repeat'(first|exact trivial|exact rfl|refine And.intro ?_ ?_|((conv=>whnf);first|exact trivial|exact rfl|refine And.intro ?_ ?_|omega))
 conv=>whnf
 refine call_step c8 rfl rfl ?_
 conv=>whnf
 refine⟨?_, ?_, ?_⟩
 iterate 2 · repeat'(first|exact trivial|exact rfl|refine And.intro ?_ ?_|((conv=>whnf);first|exact trivial|exact rfl|refine And.intro ?_ ?_|omega))
 conv=>whnf
 refine⟨fun hc=>absurd hc (by simp),fun hc=>?_⟩
 conv=>whnf
 refine⟨fun hc=>absurd hc (by simp),fun hc=>?_⟩
 conv=>whnf
 refine⟨fun hc=>absurd hc (by simp),fun hc=>?_⟩
 conv=>whnf
 refine bs_step tB_ok (aInt [11,12,14]) rfl rfl ?_
 conv=>whnf
 refine⟨⟨rfl,(by repeat'(first|exact trivial|exact rfl|refine And.intro ?_ ?_|((conv=>whnf);first|exact trivial|exact rfl|refine And.intro ?_ ?_|omega)))⟩, ?_⟩
 conv=>whnf
 refine call_step (bInts_t [11,12,14] [11,12,14] (by decide)) rfl rfl ?_
 conv=>whnf
 refine⟨?_, ?_, ?_⟩
 iterate 2 · repeat'(first|exact trivial|exact rfl|refine And.intro ?_ ?_|((conv=>whnf);first|exact trivial|exact rfl|refine And.intro ?_ ?_|omega))
 conv=>whnf
 refine⟨fun hc=>absurd hc (by simp),fun hc=>?_⟩
 conv=>whnf
 refine⟨0,rfl,by decide,by decide,⟨14,1,0,9,6,30⟩,rfl, ?_⟩
 conv=>whnf
 refine call_step gross_t rfl rfl ?_
 conv=>whnf
 refine⟨?_, ?_, ?_⟩
 iterate 2 · repeat'(first|exact trivial|exact rfl|refine And.intro ?_ ?_|((conv=>whnf);first|exact trivial|exact rfl|refine And.intro ?_ ?_|omega))
 conv=>whnf
 refine call_step c9 rfl rfl ?_
 conv=>whnf
 refine⟨?_, ?_, ?_⟩
 iterate 2 · repeat'(first|exact trivial|exact rfl|refine And.intro ?_ ?_|((conv=>whnf);first|exact trivial|exact rfl|refine And.intro ?_ ?_|omega))
 conv=>whnf
 refine call_step ca rfl rfl ?_
 conv=>whnf
 refine⟨?_, ?_, ?_⟩
 iterate 2 · repeat'(first|exact trivial|exact rfl|refine And.intro ?_ ?_|((conv=>whnf);first|exact trivial|exact rfl|refine And.intro ?_ ?_|omega))
 conv=>whnf
 refine call_step scale_t rfl rfl ?_
 conv=>whnf
 refine⟨?_, ?_, ?_⟩
 iterate 2 · repeat'(first|exact trivial|exact rfl|refine And.intro ?_ ?_|((conv=>whnf);first|exact trivial|exact rfl|refine And.intro ?_ ?_|omega))
 conv=>whnf
 refine call_step cb rfl rfl ?_
 conv=>whnf
 refine⟨?_, ?_, ?_⟩
 iterate 2 · repeat'(first|exact trivial|exact rfl|refine And.intro ?_ ?_|((conv=>whnf);first|exact trivial|exact rfl|refine And.intro ?_ ?_|omega))
 conv=>whnf
 refine⟨fun hc=>?_,fun hc=>absurd hc (by simp)⟩
 conv=>whnf
 refine⟨fun hc=>?_,fun hc=>absurd hc (by simp)⟩
 conv=>whnf
 refine bs_step tB_ok (aInt [12,14]) rfl rfl ?_
 conv=>whnf
 refine⟨⟨rfl,(by repeat'(first|exact trivial|exact rfl|refine And.intro ?_ ?_|((conv=>whnf);first|exact trivial|exact rfl|refine And.intro ?_ ?_|omega)))⟩, ?_⟩
 conv=>whnf
 refine call_step (bInts_t [12,14] [12,14] (by decide)) rfl rfl ?_
 conv=>whnf
 refine⟨?_, ?_, ?_⟩
 iterate 2 · repeat'(first|exact trivial|exact rfl|refine And.intro ?_ ?_|((conv=>whnf);first|exact trivial|exact rfl|refine And.intro ?_ ?_|omega))
 conv=>whnf
 refine⟨fun hc=>?_,fun hc=>absurd hc (by simp)⟩
 conv=>whnf
 refine⟨fun hc=>?_,fun hc=>absurd hc (by simp)⟩
 conv=>whnf
 repeat'(first|exact trivial|exact rfl|refine And.intro ?_ ?_|((conv=>whnf);first|exact trivial|exact rfl|refine And.intro ?_ ?_|omega))

end Go.Proofs

namespace Go.Proofs
open Go.Sx

theorem rIn_t (n lo hi:Int):Triple Tryz.prog 114 [iv .i64 n,iv .i64 lo,iv .i64 hi] [] 0 (bv (withinF n lo hi)) []:=by
 refine triple_of tB_ok Tryz.func114 rfl Tryz.call114 rfl ?_
 intro ρ w hH
 conv=>whnf
 refine⟨fun h=>?_,fun h=>?_⟩
 ·conv=>whnf
  exact⟨(by simp [withinF,h]:decide (n≤hi)=withinF n lo hi),trivial⟩
 ·conv=>whnf
  exact⟨(by simp [withinF,h]:false=withinF n lo hi),trivial⟩

theorem rSpan_t (a b lo hi:Int):Triple Tryz.prog 173 [.agg [.v (.int .i64 a), .v (.int .i64 b)],iv .i64 lo,iv .i64 hi] [] 0 (bv (insideF a b lo hi)) []:=by
 refine triple_of tB_ok Tryz.func173 rfl Tryz.call173 rfl ?_
 intro ρ w hH
 conv=>whnf
 refine⟨fun hc=>?_,fun hc=>?_⟩
 ·conv=>whnf
  refine⟨fun hc=>?_,fun hc=>?_⟩
  ·conv=>whnf
   exact⟨(by first | (simp_all [insideF]; done) | (simp [insideF] at *; omega):_=insideF a b lo hi),trivial⟩
  ·conv=>whnf
   exact⟨(by first | (simp_all [insideF]; done) | (simp [insideF] at *; omega):_=insideF a b lo hi),trivial⟩
 ·conv=>whnf
  exact⟨(by first | (simp_all [insideF]; done) | (simp [insideF] at *; omega):_=insideF a b lo hi),trivial⟩

theorem rValid_t (b:Bal):Triple Tryz.prog 113 [svBal b] [] 0 (bv (validF b)) []:=by
 refine triple_of tB_ok Tryz.func113 rfl Tryz.call113 rfl ?_
 intro ρ w hH
 conv=>whnf
 refine call_step (rIn_t b.id 1 1099511627776) rfl rfl ?_
 conv=>whnf
 refine⟨?_, ?_, ?_⟩
 iterate 2 · repeat'(first|exact trivial|exact rfl|refine And.intro ?_ ?_|((conv=>whnf);first|exact trivial|exact rfl|refine And.intro ?_ ?_|omega))
 conv=>whnf
 refine⟨fun hc=>?_,fun hc=>?_⟩
 rotate_left
 ·conv=>whnf
  exact⟨(by simp_all [validF]:_=validF b),trivial⟩
 conv=>whnf
 refine call_step (rIn_t b.half 0 1000) rfl rfl ?_
 conv=>whnf
 refine⟨?_, ?_, ?_⟩
 iterate 2 · repeat'(first|exact trivial|exact rfl|refine And.intro ?_ ?_|((conv=>whnf);first|exact trivial|exact rfl|refine And.intro ?_ ?_|omega))
 conv=>whnf
 refine⟨fun hc=>?_,fun hc=>?_⟩
 rotate_left
 ·conv=>whnf
  exact⟨(by simp_all [validF]:_=validF b),trivial⟩
 conv=>whnf
 refine call_step (rSpan_t b.lo b.hi (-1000000) 1000000) rfl rfl ?_
 conv=>whnf
 refine⟨?_, ?_, ?_⟩
 iterate 2 · repeat'(first|exact trivial|exact rfl|refine And.intro ?_ ?_|((conv=>whnf);first|exact trivial|exact rfl|refine And.intro ?_ ?_|omega))
 conv=>whnf
 refine⟨fun hc=>?_,fun hc=>?_⟩
 rotate_left
 ·conv=>whnf
  exact⟨(by simp_all [validF]:_=validF b),trivial⟩
 conv=>whnf
 refine call_step (rIn_t b.dr 0 1000) rfl rfl ?_
 conv=>whnf
 refine⟨?_, ?_, ?_⟩
 iterate 2 · repeat'(first|exact trivial|exact rfl|refine And.intro ?_ ?_|((conv=>whnf);first|exact trivial|exact rfl|refine And.intro ?_ ?_|omega))
 conv=>whnf
 refine⟨fun hc=>?_,fun hc=>?_⟩
 rotate_left
 ·conv=>whnf
  exact⟨(by simp_all [validF]:_=validF b),trivial⟩
 conv=>whnf
 refine call_step (rIn_t b.cap 1 10000000) rfl rfl ?_
 conv=>whnf
 refine⟨?_, ?_, ?_⟩
 iterate 2 · repeat'(first|exact trivial|exact rfl|refine And.intro ?_ ?_|((conv=>whnf);first|exact trivial|exact rfl|refine And.intro ?_ ?_|omega))
 conv=>whnf
 exact⟨(by simp_all [validF]:_=validF b),trivial⟩

theorem thg_alt (o:Thg) (h1:withinF o.lot 1 1099511627776=true) (h2:withinF o.bale 1 1099511627776=true) :
  thgF o=(((o.smp == 0) && ((o.st == 1) || (o.st == 2))) || (withinF o.smp 1 1099511627776 && ((o.st == 3) || (o.st == 4)))):=by
 unfold thgF
 rw [h1,h2]
 by_cases a1:o.st=1
 ·simp [a1]
 by_cases a2:o.st=2
 ·simp [a2]
 by_cases a3:o.st=3
 ·simp [a3]
 by_cases a4:o.st=4
 ·simp [a4]
 rw [show (o.st == 1)=false by simpa using a1,show (o.st == 2)=false by simpa using a2,show (o.st == 3)=false by simpa using a3,show (o.st == 4)=false by simpa using a4]
 simp

theorem rObject_t (o:Thg):Triple Tryz.prog 86 [svThg o] [] 0 (bv (thgF o)) []:=by
 refine triple_of tB_ok Tryz.func86 rfl Tryz.call86 rfl ?_
 intro ρ w hH
 conv=>whnf
 refine call_step (rIn_t o.lot 1 1099511627776) rfl rfl ?_
 conv=>whnf
 refine⟨?_, ?_, ?_⟩
 iterate 2 · repeat'(first|exact trivial|exact rfl|refine And.intro ?_ ?_|((conv=>whnf);first|exact trivial|exact rfl|refine And.intro ?_ ?_|omega))
 conv=>whnf
 refine⟨fun hc=>?_,fun hc=>?_⟩
 ·conv=>whnf
  exact⟨(by simp_all [thgF]:_=thgF o),trivial⟩
 have h1:withinF o.lot 1 1099511627776=true:=by simpa using hc
 conv=>whnf
 refine call_step (rIn_t o.bale 1 1099511627776) rfl rfl ?_
 conv=>whnf
 refine⟨?_, ?_, ?_⟩
 iterate 2 · repeat'(first|exact trivial|exact rfl|refine And.intro ?_ ?_|((conv=>whnf);first|exact trivial|exact rfl|refine And.intro ?_ ?_|omega))
 conv=>whnf
 refine⟨fun hc=>?_,fun hc=>?_⟩
 ·conv=>whnf
  exact⟨(by simp_all [thgF]:_=thgF o),trivial⟩
 have h2:withinF o.bale 1 1099511627776=true:=by simpa using hc
 rw [thg_alt o h1 h2]
 clear hc
 obtain ⟨lot,bale,smp,st⟩:=o
 dsimp only at *
 clear h1 h2
 conv=>whnf
 refine⟨fun hA=>?_,fun hA=>?_⟩
 ·conv=>whnf
  refine⟨fun hB=>?_,fun hB=>?_⟩
  ·conv=>whnf
   exact⟨(by simp_all:true=(_ || _)),trivial⟩
  ·conv=>whnf
   refine⟨fun hC=>?_,fun hC=>?_⟩
   ·conv=>whnf
    exact⟨(by simp_all:true=(_ || _)),trivial⟩
   ·skip
    conv=>whnf
    refine call_step (rIn_t smp 1 1099511627776) rfl rfl ?_
    conv=>whnf
    refine⟨?_, ?_, ?_⟩
    iterate 2 · repeat'(first|exact trivial|exact rfl|refine And.intro ?_ ?_|((conv=>whnf);first|exact trivial|exact rfl|refine And.intro ?_ ?_|omega))
    conv=>whnf
    refine⟨fun hD=>?_,fun hD=>?_⟩
    ·conv=>whnf
     refine⟨fun hE=>?_,fun hE=>?_⟩
     ·conv=>whnf
      exact⟨(by simp_all:true=(_ || _)),trivial⟩
     ·conv=>whnf
      exact⟨(by first | (rw [show (st == 1)=false from hB,show (st == 2)=false from hC,show (st == 3)=false from hE,show withinF smp 1 1099511627776=true from hD]; simp) | (rw [show (smp == 0)=false from hA,show (st == 3)=false from hE,show withinF smp 1 1099511627776=true from hD]; simp):_=(_ || _)),trivial⟩
    ·conv=>whnf
     exact⟨(by simp_all:false=(_ || _)),trivial⟩
 ·skip
  conv=>whnf
  refine call_step (rIn_t smp 1 1099511627776) rfl rfl ?_
  conv=>whnf
  refine⟨?_, ?_, ?_⟩
  iterate 2 · repeat'(first|exact trivial|exact rfl|refine And.intro ?_ ?_|((conv=>whnf);first|exact trivial|exact rfl|refine And.intro ?_ ?_|omega))
  conv=>whnf
  refine⟨fun hD=>?_,fun hD=>?_⟩
  ·conv=>whnf
   refine⟨fun hE=>?_,fun hE=>?_⟩
   ·conv=>whnf
    exact⟨(by simp_all:true=(_ || _)),trivial⟩
   ·conv=>whnf
    exact⟨(by first | (rw [show (st == 1)=false from hB,show (st == 2)=false from hC,show (st == 3)=false from hE,show withinF smp 1 1099511627776=true from hD]; simp) | (rw [show (smp == 0)=false from hA,show (st == 3)=false from hE,show withinF smp 1 1099511627776=true from hD]; simp):_=(_ || _)),trivial⟩
  ·conv=>whnf
   exact⟨(by simp_all:false=(_ || _)),trivial⟩

theorem rFind_t (r:Rd) (id:Int) (hb:r.bs.length≤1000000):Triple Tryz.prog 89 [rdA r,iv .i64 id] (rdH r) 4 (svBal (findD r.bs id)) []:=by
 have hs:∀ (i:Nat) (h:i < r.bs.length),(∀ x ∈ r.bs.take i,(x.id == id)=false) → (r.bs[i].id == id)=true → findD r.bs id=r.bs[i]:=fun i h a b=>(findD_some h a b).1
 have hz:(∀ x ∈ r.bs,(x.id == id)=false) → findD r.bs id=zBal:=fun h=>(findD_none h).1
 generalize findD r.bs id=d at *
 obtain ⟨bs,cs,ns,ws⟩:=r
 dsimp only at *
 refine triple_of tB_ok Tryz.func89 rfl Tryz.call89 rfl ?_
 intro ρ w hH
 conv=>whnf
 refine loop_step tB_ok (G:=Nat) 0 [] (fun i=>[(5,iv .i64 i)]) (fun _=>[]) (fun i=>i≤bs.length∧∀ x ∈ bs.take i,(x.id == id)=false) (fun i=>bs.length - i) ?_
 conv=>whnf
 refine⟨⟨0,⟨Nat.zero_le _,by simp⟩, ?_⟩, ?_⟩
 ·conv=>whnf
  repeat'(first|exact trivial|exact rfl|refine And.intro ?_ ?_|((conv=>whnf);first|exact trivial|exact rfl|refine And.intro ?_ ?_|omega))
 rintro i ⟨hi,hn⟩ ρ1 t1 hρ1
 conv=>whnf
 refine⟨fun hc=>?_,fun hc=>?_⟩
 ·have hlt:i < bs.length:=by simpa using hc
  conv=>whnf
  refine⟨i,rfl,hlt,hlt, ?_⟩
  conv=>whnf
  refine⟨fun hc=>?_,fun hc=>?_⟩
  ·obtain rfl:=hs i hlt hn hc
   conv=>whnf
   refine⟨i,rfl,hlt,hlt, ?_⟩
   conv=>whnf
   repeat'(first|exact trivial|exact rfl|refine And.intro ?_ ?_|((conv=>whnf);first|exact trivial|exact rfl|refine And.intro ?_ ?_|omega))
  ·conv=>whnf
   refine⟨_,wrapId ⟨by omega,by omega⟩, ?_⟩
   refine⟨i+1,⟨hlt, ?_⟩,by show bs.length - (i+1) < bs.length - i; omega, ?_⟩
   ·intro x hx
    rw [take_snoc hlt] at hx
    rcases List.mem_append.1 hx with hx | hx
    ·exact hn x hx
    ·simp only [List.mem_singleton] at hx; rw [hx]; exact hc
   conv=>whnf
   refine⟨rfl, ?_⟩
   conv=>whnf
   repeat'(first|exact trivial|exact rfl|refine And.intro ?_ ?_|((conv=>whnf);first|exact trivial|exact rfl|refine And.intro ?_ ?_|omega))
 ·have hie:i=bs.length:=by simp at hc; omega
  subst hie
  rw [List.take_length] at hn
  obtain rfl:=hz hn
  conv=>whnf
  repeat'(first|exact trivial|exact rfl|refine And.intro ?_ ?_|((conv=>whnf);first|exact trivial|exact rfl|refine And.intro ?_ ?_|omega))

theorem rHas_t (l:List Int) (v:Int) (hl:l.length≤1000000):Triple Tryz.prog 115 [.c (.s 0 0 l.length 1),iv .i64 v] [(0,false, .arr (aInt l))] 1 (bv (l.contains v)) []:=by
 refine triple_of tB_ok Tryz.func115 rfl Tryz.call115 rfl ?_
 intro ρ w hH
 conv=>whnf
 refine loop_step tB_ok (G:=Nat) 0 [] (fun i=>[(5,iv .i64 i)]) (fun _=>[]) (fun i=>i≤l.length∧∀ x ∈ l.take i,x ≠ v) (fun i=>l.length - i) ?_
 conv=>whnf
 refine⟨⟨0,⟨Nat.zero_le _,by simp⟩, ?_⟩, ?_⟩
 ·conv=>whnf
  repeat'(first|exact trivial|exact rfl|refine And.intro ?_ ?_|((conv=>whnf);first|exact trivial|exact rfl|refine And.intro ?_ ?_|omega))
 rintro i ⟨hi,hn⟩ ρ1 t1 hρ1
 conv=>whnf
 refine⟨fun hc=>?_,fun hc=>?_⟩
 ·have hlt:i < l.length:=by simpa using hc
  conv=>whnf
  refine⟨i,rfl,hlt,hlt, ?_⟩
  conv=>whnf
  refine⟨fun hc=>?_,fun hc=>?_⟩
  ·have h1:l[i]=v:=by simpa using (show (l[i] == v)=true from hc)
   have h2:l.contains v=true:=by rw [← h1]; simp
   rw [h2]
   conv=>whnf
   repeat'(first|exact trivial|exact rfl|refine And.intro ?_ ?_|((conv=>whnf);first|exact trivial|exact rfl|refine And.intro ?_ ?_|omega))
  ·have h1:¬ l[i]=v:=by simpa using (show (l[i] == v)=false from hc)
   conv=>whnf
   refine⟨_,wrapId ⟨by omega,by omega⟩, ?_⟩
   refine⟨i+1,⟨hlt, ?_⟩,by show l.length - (i+1) < l.length - i; omega, ?_⟩
   ·intro x hx
    rw [take_snoc hlt] at hx
    rcases List.mem_append.1 hx with hx | hx
    ·exact hn x hx
    ·simp only [List.mem_singleton] at hx; rw [hx]; exact h1
   conv=>whnf
   refine⟨rfl, ?_⟩
   conv=>whnf
   repeat'(first|exact trivial|exact rfl|refine And.intro ?_ ?_|((conv=>whnf);first|exact trivial|exact rfl|refine And.intro ?_ ?_|omega))
 ·have hie:i=l.length:=by simp at hc; omega
  subst hie
  rw [List.take_length] at hn
  have h2:l.contains v=false:=by
   rw [← Bool.not_eq_true,List.contains_iff_mem]
   exact fun hm=>hn v hm rfl
  rw [h2]
  conv=>whnf
  repeat'(first|exact trivial|exact rfl|refine And.intro ?_ ?_|((conv=>whnf);first|exact trivial|exact rfl|refine And.intro ?_ ?_|omega))

end Go.Proofs

