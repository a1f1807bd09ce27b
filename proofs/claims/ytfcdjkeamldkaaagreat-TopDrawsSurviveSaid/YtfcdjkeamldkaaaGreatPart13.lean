/-
  A part of the proof that a law answers true: lemmas of a symbolic walk, plain functions, or contracts of the functions walked (Uc, Ud, Ue, Sx59, Uf, Ug, Uh). Conditions: none.
-/
import Derived.Test.YtfcdjkeamldkaaaGreatPart12
import Derived.Test.YtfcdjkeamldkaaaGreatPart10
set_option maxRecDepth 100000
set_option linter.unusedVariables false
set_option linter.unusedSimpArgs false
namespace Go.Proofs
open Go.Sx

def okC (c:UInt8):Bool:=(decide (97≤c.toNat) && decide (c.toNat≤122)) || (decide (48≤c.toNat) && decide (c.toNat≤57)) || decide (c.toNat=45)

def fibreF (s:List UInt8):Bool:=s.all okC && withinF s.length 1 24


theorem fibre_t (s:List UInt8) (hs:s.length≤140737488355328):Triple Tryz.prog 61 [strV s] [] 0 (bv (fibreF s)) []:=by
 refine triple_of tB_ok Tryz.func61 rfl Tryz.call61 rfl ?_
 intro ρ w hH
 conv=>whnf
 refine loop_step tB_ok (G:=Nat) 0 [] (fun i=>[(7,iv .i64 i)]) (fun _=>[]) (fun i=>i≤s.length∧(s.take i).all okC=true) (fun i=>s.length - i) ?_
 conv=>whnf
 refine⟨⟨0,⟨Nat.zero_le _,rfl⟩, ?_⟩, ?_⟩
 ·conv=>whnf
  repeat'(first|exact trivial|exact rfl|refine And.intro ?_ ?_|((conv=>whnf);first|exact trivial|exact rfl|refine And.intro ?_ ?_|omega))
 rintro i ⟨hi,hall⟩ ρ1 t1 hρ1
 have hi:i≤s.length:=hi
 have hall:(s.take i).all okC=true:=hall
 conv=>whnf
 refine⟨fun hc=>?_,fun hc=>?_⟩
 ·have h:i < s.length:=by
   have hc:decide ((i:Int) < (s.length:Int))=true:=hc
   simp at hc; omega
  have hok:okC s[i]=true → (s.take (i+1)).all okC=true:=fun hx=>by rw [take_snoc h,List.all_append,hall]; simp [hx]
  have hno:okC s[i]=false → fibreF s=false:=fun hx=>by
   unfold fibreF
   have:s.all okC=false:=by
    rw [List.all_eq_false]
    exact⟨s[i],List.getElem_mem h,by simp [hx]⟩
   rw [this]; rfl
  conv=>whnf
  refine sidx_step (l:=s) tB_ok rfl rfl rfl rfl i rfl h ?_
  generalize s[i]=c at hok hno ⊢
  have hc8:=u8_lt c
  conv=>whnf
  refine⟨fun hc=>?_,fun hc=>?_⟩
  ·have p1:=of_decide_eq_true hc
   conv=>whnf
   refine⟨fun hc=>?_,fun hc=>?_⟩
   ·have p2:=of_decide_eq_true hc
    conv=>whnf
    refine⟨_,wrapId ⟨by omega,by omega⟩, ?_⟩
    refine⟨i+1,⟨h,hok ?_⟩,by show s.length - (i+1) < s.length - i; omega, ?_⟩
    ·simp [okC]; omega
    conv=>whnf
    refine⟨rfl, ?_⟩
    conv=>whnf
    repeat'(first|exact trivial|exact rfl|refine And.intro ?_ ?_|((conv=>whnf);first|exact trivial|exact rfl|refine And.intro ?_ ?_|omega))
   ·have p2:=of_decide_eq_false hc
    conv=>whnf
    refine⟨fun hc=>?_,fun hc=>?_⟩
    ·have p3:=of_decide_eq_true hc
     conv=>whnf
     refine⟨fun hc=>?_,fun hc=>?_⟩
     ·have p4:=of_decide_eq_true hc
      omega
     ·conv=>whnf
      refine⟨fun hc=>?_,fun hc=>?_⟩
      ·have p5:¬ c.toNat=45:=by omega
       have p4:¬ c.toNat≤57:=by omega
       conv=>whnf
       refine⟨(hno ?_).symm,trivial⟩
       simp [okC]; omega
      ·have p5:c.toNat=45:=by simp at hc; omega
       omega
    ·have p3:=of_decide_eq_false hc
     omega
  ·have p1:=of_decide_eq_false hc
   conv=>whnf
   refine⟨fun hc=>?_,fun hc=>?_⟩
   ·have p3:=of_decide_eq_true hc
    conv=>whnf
    refine⟨fun hc=>?_,fun hc=>?_⟩
    ·have p4:=of_decide_eq_true hc
     conv=>whnf
     refine⟨_,wrapId ⟨by omega,by omega⟩, ?_⟩
     refine⟨i+1,⟨h,hok ?_⟩,by show s.length - (i+1) < s.length - i; omega, ?_⟩
     ·simp [okC]; omega
     conv=>whnf
     refine⟨rfl, ?_⟩
     conv=>whnf
     repeat'(first|exact trivial|exact rfl|refine And.intro ?_ ?_|((conv=>whnf);first|exact trivial|exact rfl|refine And.intro ?_ ?_|omega))
    ·have p4:=of_decide_eq_false hc
     conv=>whnf
     refine⟨fun hc=>?_,fun hc=>?_⟩
     ·have p5:¬ c.toNat=45:=by omega
      conv=>whnf
      refine⟨(hno ?_).symm,trivial⟩
      simp [okC]; omega
     ·have p5:c.toNat=45:=by simp at hc; omega
      omega
   ·have p3:=of_decide_eq_false hc
    conv=>whnf
    refine⟨fun hc=>?_,fun hc=>?_⟩
    ·have p5:¬ c.toNat=45:=by simp at hc; omega
     conv=>whnf
     refine⟨(hno ?_).symm,trivial⟩
     simp [okC]; omega
    ·have p5:c.toNat=45:=by simp at hc; omega
     conv=>whnf
     refine⟨_,wrapId ⟨by omega,by omega⟩, ?_⟩
     refine⟨i+1,⟨h,hok ?_⟩,by show s.length - (i+1) < s.length - i; omega, ?_⟩
     ·simp [okC]; omega
     conv=>whnf
     refine⟨rfl, ?_⟩
     conv=>whnf
     repeat'(first|exact trivial|exact rfl|refine And.intro ?_ ?_|((conv=>whnf);first|exact trivial|exact rfl|refine And.intro ?_ ?_|omega))
 ·have hie:i=s.length:=by
   have hc:decide ((i:Int) < (s.length:Int))=false:=hc
   simp at hc; omega
  subst hie
  conv=>whnf
  refine call_step (sWithin_t s.length 1 24) rfl rfl ?_
  conv=>whnf
  refine⟨?_, ?_, ?_⟩
  iterate 2 · repeat'(first|exact trivial|exact rfl|refine And.intro ?_ ?_|((conv=>whnf);first|exact trivial|exact rfl|refine And.intro ?_ ?_|omega))
  conv=>whnf
  refine⟨?_,trivial⟩
  unfold fibreF
  rw [List.take_length] at hall
  rw [hall]; rfl

def aBale (xs:List (Int × Int)):Arr:=⟨Int × Int,2,fun x=>[.v (.int .i64 x.1), .v (.int .i64 x.2)],[],fun _=>rfl,(by intro x c hc k hk; simp at hc; rcases hc with rfl | rfl <;> cases hk),xs,none,none⟩

structure Pl where
 id:Int
 fib:List UInt8
 bales:List (Int × Int)
 per:Int

def balesF:Int → List (Int × Int) → Int
 | _,[]=>0
 | last,b :: r=>if withinF b.1 1 1099511627776 && withinF b.2 1 200 then (if b.1≤last then 6 else balesF b.1 r) else 1

def lotF (p:Pl):Int:=if withinF p.id 1 1099511627776 then (if fibreF p.fib then (if withinF p.bales.length 1 40 then balesF 0 p.bales else 2) else 7) else 1

def planF (p:Pl):Int:=if lotF p=0 then (if withinF p.per 1 12 then (if p.bales.any fun b=>decide (b.2 < p.per) then 2 else 0) else 1) else lotF p

theorem drop_cons {α:Type} {l:List α} {i:Nat} (h:i < l.length):l.drop i=l[i] :: l.drop (i+1):=List.drop_eq_getElem_cons h

theorem lot_t (p:Pl) (hf:p.fib.length≤140737488355328) (hb:p.bales.length≤140737488355328):Triple Tryz.prog 21 [.agg [.v (.int .i64 p.id),strC p.fib, .s 0 0 p.bales.length 2]]
  [(0,false, .arr (aBale p.bales))] 1 (iv .i64 (lotF p)) []:=by
 refine triple_of tB_ok Tryz.func21 rfl Tryz.call21 rfl ?_
 intro ρ w hH
 conv=>whnf
 refine call_step (sWithin_t p.id 1 1099511627776) rfl rfl ?_
 conv=>whnf
 refine⟨?_, ?_, ?_⟩
 iterate 2 · repeat'(first|exact trivial|exact rfl|refine And.intro ?_ ?_|((conv=>whnf);first|exact trivial|exact rfl|refine And.intro ?_ ?_|omega))
 conv=>whnf
 refine⟨fun hc=>?_,fun hc=>?_⟩
 ·have hc:withinF p.id 1 1099511627776=false:=by simpa using hc
  rw [show lotF p=1 from by simp [lotF,hc]]
  conv=>whnf
  repeat'(first|exact trivial|exact rfl|refine And.intro ?_ ?_|((conv=>whnf);first|exact trivial|exact rfl|refine And.intro ?_ ?_|omega))
 have h1:withinF p.id 1 1099511627776=true:=by simpa using hc
 conv=>whnf
 refine call_step (fibre_t p.fib hf) rfl rfl ?_
 conv=>whnf
 refine⟨?_, ?_, ?_⟩
 iterate 2 · repeat'(first|exact trivial|exact rfl|refine And.intro ?_ ?_|((conv=>whnf);first|exact trivial|exact rfl|refine And.intro ?_ ?_|omega))
 conv=>whnf
 refine⟨fun hc=>?_,fun hc=>?_⟩
 ·have hc:fibreF p.fib=false:=by simpa using hc
  rw [show lotF p=7 from by simp [lotF,hc,h1]]
  conv=>whnf
  repeat'(first|exact trivial|exact rfl|refine And.intro ?_ ?_|((conv=>whnf);first|exact trivial|exact rfl|refine And.intro ?_ ?_|omega))
 have h2:fibreF p.fib=true:=by simpa using hc
 conv=>whnf
 refine call_step (sWithin_t p.bales.length 1 40) rfl rfl ?_
 conv=>whnf
 refine⟨?_, ?_, ?_⟩
 iterate 2 · repeat'(first|exact trivial|exact rfl|refine And.intro ?_ ?_|((conv=>whnf);first|exact trivial|exact rfl|refine And.intro ?_ ?_|omega))
 conv=>whnf
 refine⟨fun hc=>?_,fun hc=>?_⟩
 ·have hc:withinF p.bales.length 1 40=false:=by simpa using hc
  rw [show lotF p=2 from by simp [lotF,hc,h1,h2]]
  conv=>whnf
  repeat'(first|exact trivial|exact rfl|refine And.intro ?_ ?_|((conv=>whnf);first|exact trivial|exact rfl|refine And.intro ?_ ?_|omega))
 have h3:withinF p.bales.length 1 40=true:=by simpa using hc
 have hlot:lotF p=balesF 0 p.bales:=by simp [lotF,h1,h2,h3]
 rw [hlot]
 conv=>whnf
 refine loop_step tB_ok (G:=Nat × Int) 0 [] (fun g=>[(25,iv .i64 g.1),(3,iv .i64 g.2)]) (fun _=>[]) (fun g=>g.1≤p.bales.length∧balesF g.2 (p.bales.drop g.1)=balesF 0 p.bales) (fun g=>p.bales.length - g.1) ?_
 conv=>whnf
 refine⟨⟨(0,0),⟨Nat.zero_le _,rfl⟩, ?_⟩, ?_⟩
 ·conv=>whnf
  repeat'(first|exact trivial|exact rfl|refine And.intro ?_ ?_|((conv=>whnf);first|exact trivial|exact rfl|refine And.intro ?_ ?_|omega))
 rintro ⟨i,last⟩ ⟨hi,hE⟩ ρ1 t1 hρ1
 dsimp only at hi hE
 conv=>whnf
 refine⟨fun hc=>?_,fun hc=>?_⟩
 ·have h:i < p.bales.length:=by simp at hc; omega
  rw [drop_cons h] at hE
  simp only [balesF] at hE
  conv=>whnf
  refine⟨i,rfl,h,h, ?_⟩
  conv=>whnf
  refine call_step (sWithin_t p.bales[i].1 1 1099511627776) rfl rfl ?_
  conv=>whnf
  refine⟨?_, ?_, ?_⟩
  iterate 2 · repeat'(first|exact trivial|exact rfl|refine And.intro ?_ ?_|((conv=>whnf);first|exact trivial|exact rfl|refine And.intro ?_ ?_|omega))
  conv=>whnf
  refine⟨fun hc=>?_,fun hc=>?_⟩
  ·have hc1:withinF p.bales[i].1 1 1099511627776=false:=by simpa using hc
   conv=>whnf
   refine⟨fun hc=>?_,fun hc=>?_⟩
   ·rw [show balesF 0 p.bales=1 from by rw [← hE]; simp [hc1]]
    conv=>whnf
    repeat'(first|exact trivial|exact rfl|refine And.intro ?_ ?_|((conv=>whnf);first|exact trivial|exact rfl|refine And.intro ?_ ?_|omega))
   ·simp [hc1] at hc
  have hc1:withinF p.bales[i].1 1 1099511627776=true:=by simpa using hc
  conv=>whnf
  refine call_step (sWithin_t p.bales[i].2 1 200) rfl rfl ?_
  conv=>whnf
  refine⟨?_, ?_, ?_⟩
  iterate 2 · repeat'(first|exact trivial|exact rfl|refine And.intro ?_ ?_|((conv=>whnf);first|exact trivial|exact rfl|refine And.intro ?_ ?_|omega))
  conv=>whnf
  refine⟨fun hc=>?_,fun hc=>?_⟩
  ·have hc2:withinF p.bales[i].2 1 200=false:=by simpa using hc
   rw [show balesF 0 p.bales=1 from by rw [← hE]; simp [hc1,hc2]]
   conv=>whnf
   repeat'(first|exact trivial|exact rfl|refine And.intro ?_ ?_|((conv=>whnf);first|exact trivial|exact rfl|refine And.intro ?_ ?_|omega))
  have hc2:withinF p.bales[i].2 1 200=true:=by simpa using hc
  rw [hc1,hc2] at hE
  conv=>whnf
  refine⟨fun hc=>?_,fun hc=>?_⟩
  ·have hc3:p.bales[i].1≤last:=of_decide_eq_true hc
   rw [show balesF 0 p.bales=6 from by rw [← hE]; simp [hc3]]
   conv=>whnf
   repeat'(first|exact trivial|exact rfl|refine And.intro ?_ ?_|((conv=>whnf);first|exact trivial|exact rfl|refine And.intro ?_ ?_|omega))
  have hc3:¬ p.bales[i].1≤last:=of_decide_eq_false hc
  conv=>whnf
  refine⟨_,wrapId ⟨by omega,by omega⟩, ?_⟩
  refine⟨(i+1,p.bales[i].1),⟨h, ?_⟩,by show p.bales.length - (i+1) < p.bales.length - i; omega, ?_⟩
  ·rw [← hE]; simp [hc3]
  conv=>whnf
  refine⟨rfl, ?_⟩
  conv=>whnf
  repeat'(first|exact trivial|exact rfl|refine And.intro ?_ ?_|((conv=>whnf);first|exact trivial|exact rfl|refine And.intro ?_ ?_|omega))
 ·have hie:i=p.bales.length:=by simp at hc; omega
  subst hie
  rw [List.drop_length] at hE
  rw [← hE]
  conv=>whnf
  repeat'(first|exact trivial|exact rfl|refine And.intro ?_ ?_|((conv=>whnf);first|exact trivial|exact rfl|refine And.intro ?_ ?_|omega))

end Go.Proofs

namespace Go.Proofs
open Go.Sx

abbrev svB (b:Int × Int):SV:=.agg [.v (.int .i64 b.1), .v (.int .i64 b.2)]
abbrev planC (k:Nat) (p:Pl):SO:=.cells [.v (.int .i64 p.id),strC p.fib, .s k 0 p.bales.length 2, .v (.int .i64 p.per)]
abbrev planS (k:Nat) (p:Pl):SV:=.agg [.v (.int .i64 p.id),strC p.fib, .s k 0 p.bales.length 2, .v (.int .i64 p.per)]
abbrev planH (p:Pl):Heap:=[(0,false,planC 1 p),(1,false, .arr (aBale p.bales))]

theorem check1_t (p:Pl) (b:Int × Int):Triple Tryz.prog 24 [svB b, .c (.p 0 0 0 0)] (planH p) 2 (bv (decide (b.2 < p.per))) []:=by
 refine triple_of tB_ok Tryz.func24 rfl Tryz.call24 rfl ?_
 intro ρ w hH
 conv=>whnf
 repeat'(first|exact trivial|exact rfl|refine And.intro ?_ ?_|((conv=>whnf);first|exact trivial|exact rfl|refine And.intro ?_ ?_|omega))


theorem indexBale_t (p:Pl) (hb:p.bales.length≤140737488355328):Triple Tryz.prog 62 [.c (.s 1 0 p.bales.length 2), .c (.f 24 [0])]
  (planH p) 2 (iv .i64 (idxP (fun b=>decide (b.2 < p.per)) p.bales)) []:=by
 refine triple_of tB_ok Tryz.func62 rfl Tryz.call62 rfl ?_
 intro ρ w hH
 conv=>whnf
 refine loop_step tB_ok (G:=Nat) 0 [] (fun i=>[(8,iv .i64 i)]) (fun _=>[]) (fun i=>i≤p.bales.length∧∀ x ∈ p.bales.take i,decide (x.2 < p.per)=false) (fun i=>p.bales.length - i) ?_
 conv=>whnf
 refine⟨⟨0,⟨Nat.zero_le _,(fun x hx=>by simp at hx)⟩, ?_⟩, ?_⟩
 ·conv=>whnf
  repeat'(first|exact trivial|exact rfl|refine And.intro ?_ ?_|((conv=>whnf);first|exact trivial|exact rfl|refine And.intro ?_ ?_|omega))
 intro i ⟨hi,hn⟩ ρ1 t1 hρ1
 have hi:i≤p.bales.length:=hi
 have hn:∀ x ∈ p.bales.take i,(fun b:Int × Int=>decide (b.2 < p.per)) x=false:=hn
 conv=>whnf
 refine⟨fun hc=>?_,fun hc=>?_⟩
 ·have h:i < p.bales.length:=by simp at hc; omega
  conv=>whnf
  refine⟨i,rfl,h,h, ?_⟩
  conv=>whnf
  refine call_step (check1_t p p.bales[i]) rfl rfl ?_
  conv=>whnf
  refine⟨?_, ?_, ?_⟩
  iterate 2 · repeat'(first|exact trivial|exact rfl|refine And.intro ?_ ?_|((conv=>whnf);first|exact trivial|exact rfl|refine And.intro ?_ ?_|omega))
  conv=>whnf
  refine⟨fun hc=>?_,fun hc=>?_⟩
  ·rw [idxP_at (p:=fun b:Int × Int=>decide (b.2 < p.per)) h hn hc]
   conv=>whnf
   repeat'(first|exact trivial|exact rfl|refine And.intro ?_ ?_|((conv=>whnf);first|exact trivial|exact rfl|refine And.intro ?_ ?_|omega))
  ·conv=>whnf
   refine⟨_,wrapId ⟨by omega,by omega⟩, ?_⟩
   refine⟨i+1,⟨h, ?_⟩,by show p.bales.length - (i+1) < p.bales.length - i; omega, ?_⟩
   ·intro x hxx
    rw [take_snoc h] at hxx
    rcases List.mem_append.1 hxx with hxx | hxx
    ·exact hn x hxx
    ·simp only [List.mem_singleton] at hxx; rw [hxx]; exact hc
   conv=>whnf
   refine⟨rfl, ?_⟩
   conv=>whnf
   repeat'(first|exact trivial|exact rfl|refine And.intro ?_ ?_|((conv=>whnf);first|exact trivial|exact rfl|refine And.intro ?_ ?_|omega))
 ·have hi2:i=p.bales.length:=by simp at hc; omega
  subst hi2
  rw [List.take_length] at hn
  rw [idxP_none hn]
  conv=>whnf
  repeat'(first|exact trivial|exact rfl|refine And.intro ?_ ?_|((conv=>whnf);first|exact trivial|exact rfl|refine And.intro ?_ ?_|omega))

theorem containsBale_t (p:Pl) (hb:p.bales.length≤140737488355328):Triple Tryz.prog 23 [.c (.s 1 0 p.bales.length 2), .c (.f 24 [0])]
  (planH p) 2 (bv (p.bales.any fun b=>decide (b.2 < p.per))) []:=by
 rw [← idxP_ge]
 refine triple_of tB_ok Tryz.func23 rfl Tryz.call23 rfl ?_
 intro ρ w hH
 conv=>whnf
 refine call_step (indexBale_t p hb) rfl rfl ?_
 conv=>whnf
 refine⟨?_, ?_, ?_⟩
 iterate 2 · repeat'(first|exact trivial|exact rfl|refine And.intro ?_ ?_|((conv=>whnf);first|exact trivial|exact rfl|refine And.intro ?_ ?_|omega))
 conv=>whnf
 repeat'(first|exact trivial|exact rfl|refine And.intro ?_ ?_|((conv=>whnf);first|exact trivial|exact rfl|refine And.intro ?_ ?_|omega))

theorem plan_t (p:Pl) (hf:p.fib.length≤140737488355328) (hb:p.bales.length≤140737488355328):Triple Tryz.prog 5 [planS 0 p] [(0,false, .arr (aBale p.bales))] 1 (iv .i64 (planF p)) []:=by
 refine triple_of tB_ok Tryz.func5 rfl Tryz.call5 rfl ?_
 intro ρ w hH
 conv=>whnf
 refine call_step (lot_t p hf hb) rfl rfl ?_
 conv=>whnf
 refine⟨?_, ?_, ?_⟩
 iterate 2 · repeat'(first|exact trivial|exact rfl|refine And.intro ?_ ?_|((conv=>whnf);first|exact trivial|exact rfl|refine And.intro ?_ ?_|omega))
 conv=>whnf
 refine⟨fun hc=>?_,fun hc=>?_⟩
 ·have hc:lotF p ≠ 0:=by simpa using hc
  rw [show planF p=lotF p from by simp [planF,hc]]
  conv=>whnf
  repeat'(first|exact trivial|exact rfl|refine And.intro ?_ ?_|((conv=>whnf);first|exact trivial|exact rfl|refine And.intro ?_ ?_|omega))
 have h0:lotF p=0:=by simpa using hc
 conv=>whnf
 refine call_step (sWithin_t p.per 1 12) rfl rfl ?_
 conv=>whnf
 refine⟨?_, ?_, ?_⟩
 iterate 2 · repeat'(first|exact trivial|exact rfl|refine And.intro ?_ ?_|((conv=>whnf);first|exact trivial|exact rfl|refine And.intro ?_ ?_|omega))
 conv=>whnf
 refine⟨fun hc=>?_,fun hc=>?_⟩
 ·have hc:withinF p.per 1 12=false:=by simpa using hc
  rw [show planF p=1 from by simp [planF,hc,h0]]
  conv=>whnf
  repeat'(first|exact trivial|exact rfl|refine And.intro ?_ ?_|((conv=>whnf);first|exact trivial|exact rfl|refine And.intro ?_ ?_|omega))
 have h1:withinF p.per 1 12=true:=by simpa using hc
 conv=>whnf
 refine call_step (containsBale_t p hb) rfl rfl ?_
 conv=>whnf
 refine⟨?_, ?_, ?_⟩
 iterate 2 · repeat'(first|exact trivial|exact rfl|refine And.intro ?_ ?_|((conv=>whnf);first|exact trivial|exact rfl|refine And.intro ?_ ?_|omega))
 conv=>whnf
 refine⟨fun hc=>?_,fun hc=>?_⟩
 ·rw [show planF p=2 from by simp only [planF,h0,h1,hc]; rfl]
  conv=>whnf
  repeat'(first|exact trivial|exact rfl|refine And.intro ?_ ?_|((conv=>whnf);first|exact trivial|exact rfl|refine And.intro ?_ ?_|omega))
 ·rw [show planF p=0 from by simp only [planF,h0,h1,hc]; rfl]
  conv=>whnf
  repeat'(first|exact trivial|exact rfl|refine And.intro ?_ ?_|((conv=>whnf);first|exact trivial|exact rfl|refine And.intro ?_ ?_|omega))

end Go.Proofs

namespace Go.Proofs
open Go.Sx

theorem res_bytes {l:List UInt8} {n:Nat} {fx:Option Nat} (h:l.length=n) :
  (∀ j v,(bytesV l)[j]? = some v → ∃ i' j',i' * (aU8 fx l).sz+j'=j∧(SO.arr (aU8 fx l)).cell? i' j'=some (.v v))∧(bytesV l).length=n:=by
 refine⟨fun j v hv=>?_,by rw [bytesV_length,h]⟩
 have hj:j < l.length:=by have:=(List.getElem?_eq_some_iff.1 hv).1; rwa [bytesV_length] at this
 rw [bytesV_get hj] at hv; cases hv
 exact⟨j,0,by show j * 1+0=j; omega,aU8_cell.2 ⟨hj,rfl,rfl⟩⟩

structure Sec where
 seed:List UInt8
 salt:List UInt8

abbrev secV (s:Sec):SV:=.agg [strC s.seed,strC s.salt]
def secOK (s:Sec):Bool:=withinF s.seed.length 1 64 && withinF s.salt.length 1 64

theorem secOK_iff {s:Sec} (h:secOK s=true):(1≤s.seed.length∧s.seed.length≤64)∧1≤s.salt.length∧s.salt.length≤64:=by
 simp [secOK,withinF] at h; omega

def zero16:List UInt8:=List.replicate 16 0

def commitF (party:Int) (s:Sec):List UInt8 × Int:=if secOK s then (sumF 50 [intF party,s.seed,s.salt],0) else (zero16,1)
def jointF (lot:Int) (b s:Sec):List UInt8:=sumF 51 [intF lot,b.seed,s.seed]

theorem commitF_len (party:Int) (s:Sec):(commitF party s).1.length=16:=by
 unfold commitF
 split
 ·exact sumF_length _ _
 ·rfl

theorem short3 {a b c:List UInt8} (ha:a.length≤64) (hb:b.length≤64) (hc:c.length≤64):Short [a,b,c]:=by
 refine⟨by simp,fun p hp=>?_⟩
 simp at hp
 rcases hp with rfl | rfl | rfl <;> omega

theorem commit_t (party:Int) (hp:1≤party∧party≤3) (s:Sec):Triple Tryz.prog 26 [iv .i64 party,secV s] [] 0 (.tup [.inl (.v (arrV (commitF party s).1)), .inl (.v (.int .i64 (commitF party s).2))]) []:=by
 have hw:withinF party 1 3=true:=by simp [withinF]; omega
 refine triple_of tB_ok Tryz.func26 rfl Tryz.call26 rfl ?_
 intro ρ w hH
 conv=>whnf
 refine allocA_step tB_ok 16 rfl rfl rfl ?_
 conv=>whnf
 refine call_step (sWithin_t party 1 3) rfl rfl ?_
 rw [hw]
 conv=>whnf
 refine⟨?_, ?_, ?_⟩
 iterate 2 · repeat'(first|exact trivial|exact rfl|refine And.intro ?_ ?_|((conv=>whnf);first|exact trivial|exact rfl|refine And.intro ?_ ?_|omega))
 conv=>whnf
 refine⟨fun hc=>absurd hc (by simp),fun hc=>?_⟩
 conv=>whnf
 refine call_step (secret_t s.seed s.salt) rfl rfl ?_
 conv=>whnf
 refine⟨?_, ?_, ?_⟩
 iterate 2 · repeat'(first|exact trivial|exact rfl|refine And.intro ?_ ?_|((conv=>whnf);first|exact trivial|exact rfl|refine And.intro ?_ ?_|omega))
 conv=>whnf
 refine⟨fun hc=>?_,fun hc=>?_⟩
 ·have hc:secOK s=false:=by
   unfold secOK
   cases h:(withinF s.seed.length 1 64 && withinF s.salt.length 1 64) with
   | true=>rw [h] at hc; cases hc
   | false=>rfl
  rw [show commitF party s=(zero16,1) from by simp [commitF,hc]]
  conv=>whnf
  refine buildA_step tB_ok rfl rfl rfl rfl ?_
  conv=>whnf
  refine storeA_step (l':=zero16) tB_ok rfl rfl rfl rfl rfl (by simp) (by simp [zero16]) (by decide) ?_
  conv=>whnf
  refine⟨bytesV zero16,⟨(res_bytes rfl).1,(by rw [bytesV_length]; rfl),rfl⟩, ?_⟩
  conv=>whnf
  repeat'(first|exact trivial|exact rfl|refine And.intro ?_ ?_|((conv=>whnf);first|exact trivial|exact rfl|refine And.intro ?_ ?_|omega))
 ·have hc:secOK s=true:=by simpa [secOK] using hc
  have hs:=secOK_iff hc
  have hi:=intF_length party
  rw [show commitF party s=(sumF 50 [intF party,s.seed,s.salt],0) from by simp [commitF,hc]]
  conv=>whnf
  refine call_step (int_t party ⟨by omega,by omega⟩) rfl rfl ?_
  conv=>whnf
  refine⟨?_, ?_, ?_⟩
  iterate 2 · repeat'(first|exact trivial|exact rfl|refine And.intro ?_ ?_|((conv=>whnf);first|exact trivial|exact rfl|refine And.intro ?_ ?_|omega))
  conv=>whnf
  refine bs_step tB_ok (aStr [intF party,s.seed,s.salt]) rfl rfl ?_
  conv=>whnf
  refine⟨⟨rfl,(by repeat'(first|exact trivial|exact rfl|refine And.intro ?_ ?_|((conv=>whnf);first|exact trivial|exact rfl|refine And.intro ?_ ?_|omega)))⟩, ?_⟩
  conv=>whnf
  refine call_step (sum_t 50 (by decide) [intF party,s.seed,s.salt] (short3 (by omega) (by omega) (by omega))) rfl rfl ?_
  conv=>whnf
  refine⟨?_, ?_, ?_⟩
  iterate 2 · repeat'(first|exact trivial|exact rfl|refine And.intro ?_ ?_|((conv=>whnf);first|exact trivial|exact rfl|refine And.intro ?_ ?_|omega))
  conv=>whnf
  have hl:=sumF_length 50 [intF party,s.seed,s.salt]
  refine storeA_step (l':=sumF 50 [intF party,s.seed,s.salt]) tB_ok rfl rfl rfl rfl rfl (by simp) (by rw [hl]; simp) (by decide) ?_
  conv=>whnf
  refine⟨bytesV (sumF 50 [intF party,s.seed,s.salt]),⟨(res_bytes hl).1,(by rw [bytesV_length,hl]),rfl⟩, ?_⟩
  conv=>whnf
  repeat'(first|exact trivial|exact rfl|refine And.intro ?_ ?_|((conv=>whnf);first|exact trivial|exact rfl|refine And.intro ?_ ?_|omega))

def jointE (lot:Int) (b s:Sec):List UInt8 × Int:=if secOK b && secOK s then (jointF lot b s,0) else (zero16,1)

theorem jointE_len (lot:Int) (b s:Sec):(jointE lot b s).1.length=16:=by
 unfold jointE
 split
 ·exact sumF_length _ _
 ·rfl


theorem joint_t (lot:Int) (hl:1≤lot∧lot≤1099511627776) (b s:Sec) :
  Triple Tryz.prog 14 [iv .i64 lot,secV b,secV s] [] 0 (.tup [.inl (.v (arrV (jointE lot b s).1)), .inl (.v (.int .i64 (jointE lot b s).2))]) []:=by
 have hw:withinF lot 1 1099511627776=true:=by simp [withinF]; omega
 have hi:=intF_length lot
 refine triple_of tB_ok Tryz.func14 rfl Tryz.call14 rfl ?_
 intro ρ w hH
 conv=>whnf
 refine allocA_step tB_ok 16 rfl rfl rfl ?_
 conv=>whnf
 refine call_step (sWithin_t lot 1 1099511627776) rfl rfl ?_
 rw [hw]
 conv=>whnf
 refine⟨?_, ?_, ?_⟩
 iterate 2 · repeat'(first|exact trivial|exact rfl|refine And.intro ?_ ?_|((conv=>whnf);first|exact trivial|exact rfl|refine And.intro ?_ ?_|omega))
 conv=>whnf
 refine⟨fun hc=>absurd hc (by simp),fun hc=>?_⟩
 conv=>whnf
 refine call_step (secret_t b.seed b.salt) rfl rfl ?_
 rw [show (withinF b.seed.length 1 64 && withinF b.salt.length 1 64)=secOK b from rfl]
 conv=>whnf
 refine⟨?_, ?_, ?_⟩
 iterate 2 · repeat'(first|exact trivial|exact rfl|refine And.intro ?_ ?_|((conv=>whnf);first|exact trivial|exact rfl|refine And.intro ?_ ?_|omega))
 conv=>whnf
 refine⟨fun hc=>?_,fun hc=>?_⟩
 ·have hb:secOK b=false:=by simpa using hc
  rw [show jointE lot b s=(zero16,1) from by simp [jointE,hb]]
  conv=>whnf
  refine buildA_step tB_ok rfl rfl rfl rfl ?_
  conv=>whnf
  refine storeA_step (l':=zero16) tB_ok rfl rfl rfl rfl rfl (by simp) (by simp [zero16]) (by decide) ?_
  conv=>whnf
  refine⟨bytesV zero16,⟨(res_bytes rfl).1,(by rw [bytesV_length]; rfl),rfl⟩, ?_⟩
  conv=>whnf
  repeat'(first|exact trivial|exact rfl|refine And.intro ?_ ?_|((conv=>whnf);first|exact trivial|exact rfl|refine And.intro ?_ ?_|omega))
 have hb:secOK b=true:=by simpa using hc
 conv=>whnf
 refine call_step (secret_t s.seed s.salt) rfl rfl ?_
 rw [show (withinF s.seed.length 1 64 && withinF s.salt.length 1 64)=secOK s from rfl]
 conv=>whnf
 refine⟨?_, ?_, ?_⟩
 iterate 2 · repeat'(first|exact trivial|exact rfl|refine And.intro ?_ ?_|((conv=>whnf);first|exact trivial|exact rfl|refine And.intro ?_ ?_|omega))
 conv=>whnf
 refine⟨fun hc=>?_,fun hc=>?_⟩
 ·have hs:secOK s=false:=by simpa using hc
  rw [show jointE lot b s=(zero16,1) from by simp [jointE,hs]]
  conv=>whnf
  refine buildA_step tB_ok rfl rfl rfl rfl ?_
  conv=>whnf
  refine storeA_step (l':=zero16) tB_ok rfl rfl rfl rfl rfl (by simp) (by simp [zero16]) (by decide) ?_
  conv=>whnf
  refine⟨bytesV zero16,⟨(res_bytes rfl).1,(by rw [bytesV_length]; rfl),rfl⟩, ?_⟩
  conv=>whnf
  repeat'(first|exact trivial|exact rfl|refine And.intro ?_ ?_|((conv=>whnf);first|exact trivial|exact rfl|refine And.intro ?_ ?_|omega))
 have hs:secOK s=true:=by simpa using hc
 have hb2:=secOK_iff hb
 have hs2:=secOK_iff hs
 rw [show jointE lot b s=(jointF lot b s,0) from by simp [jointE,hb,hs]]
 conv=>whnf
 refine call_step (int_t lot ⟨by omega,by omega⟩) rfl rfl ?_
 conv=>whnf
 refine⟨?_, ?_, ?_⟩
 iterate 2 · repeat'(first|exact trivial|exact rfl|refine And.intro ?_ ?_|((conv=>whnf);first|exact trivial|exact rfl|refine And.intro ?_ ?_|omega))
 conv=>whnf
 refine bs_step tB_ok (aStr [intF lot,b.seed,s.seed]) rfl rfl ?_
 conv=>whnf
 refine⟨⟨rfl,(by repeat'(first|exact trivial|exact rfl|refine And.intro ?_ ?_|((conv=>whnf);first|exact trivial|exact rfl|refine And.intro ?_ ?_|omega)))⟩, ?_⟩
 conv=>whnf
 refine call_step (sum_t 51 (by decide) [intF lot,b.seed,s.seed] (short3 (by omega) (by omega) (by omega))) rfl rfl ?_
 conv=>whnf
 refine⟨?_, ?_, ?_⟩
 iterate 2 · repeat'(first|exact trivial|exact rfl|refine And.intro ?_ ?_|((conv=>whnf);first|exact trivial|exact rfl|refine And.intro ?_ ?_|omega))
 have hl:(jointF lot b s).length=16:=sumF_length _ _
 rw [show sumF 51 [intF lot,b.seed,s.seed]=jointF lot b s from rfl]
 conv=>whnf
 refine storeA_step (l':=jointF lot b s) tB_ok rfl rfl rfl rfl rfl (by simp) (by rw [hl]; simp) (by decide) ?_
 conv=>whnf
 refine⟨bytesV (jointF lot b s),⟨(res_bytes hl).1,(by rw [bytesV_length,hl]),rfl⟩, ?_⟩
 conv=>whnf
 repeat'(first|exact trivial|exact rfl|refine And.intro ?_ ?_|((conv=>whnf);first|exact trivial|exact rfl|refine And.intro ?_ ?_|omega))

end Go.Proofs

namespace Go
namespace Sx
variable {cx:Cx} {B:Tabs} {o:Oper} {e:Env} {H:Heap} {nx:Nat} {K:Eff → Prop}

theorem beqVs_bytes:∀ (l l':List UInt8),l.length=l'.length → beqVs (bytesV l) (bytesV l')=decide (l=l')
  | [],[],_=>rfl
  | a :: l,b :: l',h=>by
    have ih:=beqVs_bytes l l' (by simpa using h)
    have e:beqVs (bytesV (a :: l)) (bytesV (b :: l'))=(((a.toNat:Int) == (b.toNat:Int)) && beqVs (bytesV l) (bytesV l')):=rfl
    rw [e,ih]
    by_cases hab:a=b
    · subst hab
      simp
    · have:¬ (a.toNat:Int)=b.toNat:=fun hh=>hab (UInt8.toNat_inj.1 (by omega))
      simp [hab,this]

theorem allK_bytes:∀ (l:List UInt8),allK (.int .u8) (bytesV l)=true
  | []=>rfl
  | a :: l=>allK_bytes l

theorem aeq_step (hB:TabsOK cx.P B) {t yt n:TypeId} {x y:Operand} {l l':List UInt8} (ho:o.op=.binOp .eql t x y yt) (hD:lookD B.D t=some (n, .int .u8)) (hx:ev e x=arrS l) (hy:ev e y=arrS l') (hl:l.length=n) (hl':l'.length=n)
    (hK:K ⟨bv (decide (l=l')),[],[],[]⟩):∃ f,CallOK cx o e H nx f∧K f:=by
  have hmx:x ∈ o.op.operands.toList:=by simp [ho,Op.operands]
  have hmy:y ∈ o.op.operands.toList:=by simp [ho,Op.operands]
  refine pure_step (by simp [ho]) ⟨fun m hm _=>below_lit m _,fun ρ a w hr _=>⟨.bool (decide (l=l')), ?_,rfl⟩⟩ hK
  have hx':=lit_of hmx hx hr
  have hy':=lit_of hmy hy hr
  have hE:=hB.D t n (.int .u8) (lookD_mem hD) (bytesV l) (bytesV l') (by rw [bytesV_length,hl]) (by rw [bytesV_length,hl']) (allK_bytes l) (allK_bytes l') w x y
  rw [beqVs_bytes l l' (by omega)] at hE
  simp only [execOp,ho,hx',hy',arrV,Sem.run_bind,hE.1,Result.andThen_ok]
  have:=hE.2.2
  simp [binOp,this]

end Sx
end Go

namespace Go.Proofs
open Go.Sx

def opensF (party:Int) (d:List UInt8) (s:Sec):Bool:=secOK s && decide ((commitF party s).1=d)

theorem opens_t (party:Int) (hp:1≤party∧party≤3) (d:List UInt8) (hd:d.length=16) (s:Sec):Triple Tryz.prog 11 [iv .i64 party,arrS d,secV s] [] 0 (bv (opensF party d s)) []:=by
 have hcl:=commitF_len party s
 refine triple_of tB_ok Tryz.func11 rfl Tryz.call11 rfl ?_
 intro ρ w hH
 conv=>whnf
 refine boxA_step (l:=d) rfl rfl ?_
 rw [hd]
 conv=>whnf
 refine call_step (commit_t party hp s) rfl rfl ?_
 conv=>whnf
 refine⟨?_, ?_, ?_⟩
 iterate 2 · repeat'(first|exact trivial|exact rfl|refine And.intro ?_ ?_|((conv=>whnf);first|exact trivial|exact rfl|refine And.intro ?_ ?_|omega))
 conv=>whnf
 refine allocA_step tB_ok 16 rfl rfl rfl ?_
 conv=>whnf
 refine storeA_step (l':=(commitF party s).1) tB_ok rfl rfl rfl rfl rfl (by simp) (by rw [hcl]; simp) (by decide) ?_
 conv=>whnf
 refine⟨fun hc=>?_,fun hc=>?_⟩
 ·have hok:secOK s=true:=by
   cases h:secOK s with
   | true=>rfl
   | false=>simp [commitF,h] at hc
  conv=>whnf
  refine loadA_step (l:=(commitF party s).1) tB_ok rfl rfl rfl rfl rfl hcl.symm ?_
  conv=>whnf
  refine loadA_step (l:=d) tB_ok rfl rfl rfl rfl rfl hd.symm ?_
  conv=>whnf
  refine aeq_step (n:=16) (l:=(commitF party s).1) (l':=d) tB_ok rfl rfl rfl rfl hcl hd ?_
  rw [show opensF party d s=decide ((commitF party s).1=d) from by simp [opensF,hok]]
  conv=>whnf
  repeat'(first|exact trivial|exact rfl|refine And.intro ?_ ?_|((conv=>whnf);first|exact trivial|exact rfl|refine And.intro ?_ ?_|omega))
 ·have hok:secOK s=false:=by
   cases h:secOK s with
   | true=>simp [commitF,h] at hc
   | false=>rfl
  rw [show opensF party d s=false from by simp [opensF,hok]]
  conv=>whnf
  repeat'(first|exact trivial|exact rfl|refine And.intro ?_ ?_|((conv=>whnf);first|exact trivial|exact rfl|refine And.intro ?_ ?_|omega))

def orderF (seed:List UInt8) (b:Int × Int):List Int:=(permF (sumF 51 [seed,intF b.1]) b.2.toNat).map fun x=>x+1

theorem orderF_length (seed:List UInt8) (b:Int × Int):(orderF seed b).length=b.2.toNat:=by
 simp [orderF,permF,permN_length]

theorem permN_mem (seed:List UInt8) (n:Nat) (hn:n≤100000):∀ j,j≤n - 1 → ∀ x ∈ permN seed n j,0≤x∧x < n
 | 0,_,x,hx=>by
  simp [permN] at hx
  obtain ⟨i,hi,rfl⟩:=hx
  omega
 | j+1,hj,x,hx=>by
  have ih:=permN_mem seed n hn j (by omega)
  have hl:=permN_length seed n j
  have hb:=belowF_lt seed j (n - 1 - j+1) (by omega) (by omega)
  simp only [permN,swapF] at hx
  have g:∀ k,k < n → (permN seed n j).getD k 0 ∈ permN seed n j:=fun k hk=>by
   rw [List.getD,List.getElem?_eq_getElem (show k < (permN seed n j).length by omega)]; exact List.getElem_mem _
  rcases List.mem_or_eq_of_mem_set hx with hx | hx
  ·rcases List.mem_or_eq_of_mem_set hx with hx | hx
   ·exact ih x hx
   ·rw [hx]; exact ih _ (g _ (by omega))
  ·rw [hx]; exact ih _ (g _ (by omega))

theorem order_t (seed:List UInt8) (hs:seed.length=16) (b:Int × Int) (hb:(1≤b.1∧b.1≤1099511627776)∧1≤b.2∧b.2≤200) :
  Triple Tryz.prog 49 [arrS seed,svB b] [] 0 (.tup [.inl (.s 1 0 b.2.toNat 1), .inl (.v (.int .i64 0))]) [(1,true, .arr (aInt (orderF seed b)))]:=by
 have hi:=intF_length b.1
 obtain ⟨n,hn⟩:∃ n:Nat,b.2=n:=⟨b.2.toNat,by omega⟩
 have hm:=permN_mem (sumF 51 [seed,intF b.1]) n (by omega) (n - 1) (Nat.le_refl _)
 have hpl:(permF (sumF 51 [seed,intF b.1]) n).length=n:=permN_length _ _ _
 rw [show orderF seed b=(permF (sumF 51 [seed,intF b.1]) n).map fun x=>x+1 from by simp [orderF,hn],show b.2.toNat=n from by omega]
 generalize hP:permF (sumF 51 [seed,intF b.1]) n=P at hpl ⊢
 have hm:∀ x ∈ P,0≤x∧x < n:=by rw [← hP]; exact hm
 refine triple_of tB_ok Tryz.func49 rfl Tryz.call49 rfl ?_
 intro ρ w hH
 conv=>whnf
 refine boxA_step (l:=seed) rfl rfl ?_
 rw [hs]
 conv=>whnf
 refine slA_step (n:=16) (l:=seed) tB_ok rfl rfl rfl rfl rfl rfl ⟨Nat.le_refl _,Nat.zero_le _, ?_⟩
 conv=>whnf
 refine b2s_step (fx:=some 16) (l:=seed) tB_ok rfl rfl rfl rfl rfl rfl (by show 0+16≤_; omega) ?_
 rw [show (seed.drop 0).take (subN 16 0)=seed from List.take_of_length_le (by show seed.length≤16; omega)]
 conv=>whnf
 refine call_step (int_t b.1 ⟨by omega,by omega⟩) rfl rfl ?_
 conv=>whnf
 refine⟨?_, ?_, ?_⟩
 iterate 2 · repeat'(first|exact trivial|exact rfl|refine And.intro ?_ ?_|((conv=>whnf);first|exact trivial|exact rfl|refine And.intro ?_ ?_|omega))
 conv=>whnf
 refine bs_step tB_ok (aStr [seed,intF b.1]) rfl rfl ?_
 conv=>whnf
 refine⟨⟨rfl,(by repeat'(first|exact trivial|exact rfl|refine And.intro ?_ ?_|((conv=>whnf);first|exact trivial|exact rfl|refine And.intro ?_ ?_|omega)))⟩, ?_⟩
 conv=>whnf
 refine call_step (sum_t 51 (by decide) [seed,intF b.1] ⟨by simp, ?_⟩) rfl rfl ?_
 ·intro p hp
  simp at hp
  rcases hp with rfl | rfl <;> omega
 conv=>whnf
 refine⟨?_, ?_, ?_⟩
 iterate 2 · repeat'(first|exact trivial|exact rfl|refine And.intro ?_ ?_|((conv=>whnf);first|exact trivial|exact rfl|refine And.intro ?_ ?_|omega))
 conv=>whnf
 refine call_step (perm_t (sumF 51 [seed,intF b.1]) (sumF_length _ _) n (by omega)) rfl rfl ?_
 conv=>whnf
 refine⟨(by repeat' (first | exact hn | exact trivial | exact rfl | refine And.intro ?_ ?_ | ((conv=>whnf); first | exact hn | exact trivial | exact rfl | refine And.intro ?_ ?_ | omega))),(by repeat'(first|exact trivial|exact rfl|refine And.intro ?_ ?_|((conv=>whnf);first|exact trivial|exact rfl|refine And.intro ?_ ?_|omega))), ?_⟩
 rw [hP]
 conv=>whnf
 refine loop_step tB_ok (G:=Nat) 0 [] (fun i=>[(24,iv .i64 i)]) (fun i=>[(4,true, .arr (aInt ((P.take i).map (fun x=>x+1) ++ P.drop i)))]) (fun i=>i≤n) (fun i=>n - i) ?_
 conv=>whnf
 refine⟨⟨0,Nat.zero_le _, ?_⟩, ?_⟩
 ·conv=>whnf
  repeat'(first|exact trivial|exact rfl|refine And.intro ?_ ?_|((conv=>whnf);first|exact trivial|exact rfl|refine And.intro ?_ ?_|omega))
 intro i hi ρ1 t1 hρ1
 conv=>whnf
 refine⟨fun hc=>?_,fun hc=>?_⟩
 ·have h:i < n:=by simp at hc; omega
  have hx:i < ((P.take i).map (fun x=>x+1) ++ P.drop i).length:=by simp; omega
  have hTl:((P.take i).map fun x=>x+1).length=i:=by simp; omega
  have hg:((P.take i).map (fun x=>x+1) ++ P.drop i)[i]'hx=P[i]:=by
   rw [List.getElem_append_right (by omega),List.getElem_drop]
   congr 1; omega
  have hst:(P.take (i+1)).map (fun x=>x+1) ++ P.drop (i+1)=((P.take i).map (fun x=>x+1) ++ P.drop i).set i (P[i]+1):=by
   rw [take_snoc (show i < P.length by omega),List.map_append,List.set_append_right _ _ (by omega),List.drop_eq_getElem_cons (show i < P.length by omega),hTl,Nat.sub_self,List.set_cons_zero,List.append_assoc]
   rfl
  have hmi:=hm P[i] (List.getElem_mem (show i < P.length by omega))
  conv=>whnf
  refine⟨i,rfl,h, ?_⟩
  conv=>whnf
  refine⟨hx, ?_⟩
  conv=>whnf
  refine⟨P[i]+1, ?_, ?_⟩
  ·have e:IntKind.i64.wrap (P[i]+1)=P[i]+1:=wrapId ⟨by omega,by omega⟩
   rw [← e]
   exact congrArg (fun x=>IntKind.i64.wrap (x+1)) hg
  conv=>whnf
  refine⟨i,rfl,h, ?_⟩
  conv=>whnf
  refine⟨hx,_,rfl, ?_⟩
  conv=>whnf
  refine⟨_,wrapId ⟨by omega,by omega⟩, ?_⟩
  refine⟨i+1,h,by show n - (i+1) < n - i; omega, ?_⟩
  dsimp only
  rw [hst]
  conv=>whnf
  refine⟨rfl, ?_⟩
  conv=>whnf
  repeat'(first|exact trivial|exact rfl|refine And.intro ?_ ?_|((conv=>whnf);first|exact trivial|exact rfl|refine And.intro ?_ ?_|omega))
 ·have hie:i=n:=by simp at hc; omega
  subst hie
  rw [List.take_of_length_le (by omega),List.drop_of_length_le (by omega),List.append_nil]
  conv=>whnf
  repeat'(first|exact trivial|exact rfl|refine And.intro ?_ ?_|((conv=>whnf);first|exact trivial|exact rfl|refine And.intro ?_ ?_|omega))

end Go.Proofs

namespace Go.Proofs
open Go.Sx

theorem balesF_ok:∀ (bs:List (Int × Int)) (last:Int),balesF last bs=0 → (∀ b ∈ bs,(1≤b.1∧b.1≤1099511627776)∧1≤b.2∧b.2≤200)∧(∀ b ∈ bs,last < b.1)∧bs.Pairwise fun a b=>a.1 < b.1
 | [],_,_=>⟨by simp,by simp, .nil⟩
 | b :: r,last,h=>by
  simp only [balesF] at h
  split at h
  ·rename_i hw
   split at h
   ·cases h
   ·rename_i hlt
    obtain ⟨h1,h2,h3⟩:=balesF_ok r b.1 h
    simp [withinF] at hw
    refine⟨?_, ?_, .cons h2 h3⟩
    ·intro x hx
     rcases List.mem_cons.1 hx with rfl | hx
     ·exact⟨⟨hw.1.1,hw.1.2⟩,hw.2.1,hw.2.2⟩
     ·exact h1 x hx
    ·intro x hx
     rcases List.mem_cons.1 hx with rfl | hx
     ·omega
     ·have:=h2 x hx; omega
  ·cases h

structure PlanOK (p:Pl):Prop where
 id:1≤p.id∧p.id≤1099511627776
 len:1≤p.bales.length∧p.bales.length≤40
 per:1≤p.per∧p.per≤12
 bale:∀ b ∈ p.bales,(1≤b.1∧b.1≤1099511627776)∧p.per≤b.2∧b.2≤200
 asc:p.bales.Pairwise fun a b=>a.1 < b.1

theorem plan_ok {p:Pl} (h:planF p=0):PlanOK p:=by
 unfold planF at h
 split at h
 ·rename_i hl
  split at h
  ·rename_i hp
   split at h
   ·cases h
   ·rename_i hany
    unfold lotF at hl
    split at hl
    ·rename_i h1
     split at hl
     ·split at hl
      ·rename_i h3
       obtain ⟨h4,h5,h6⟩:=balesF_ok _ _ hl
       simp [withinF] at h1 h3 hp
       refine⟨h1,by omega,hp,fun b hb=>?_,h6⟩
       have hb4:=h4 b hb
       have:¬ b.2 < p.per:=fun hlt=>hany (List.any_eq_true.2 ⟨b,hb,by simp [hlt]⟩)
       exact⟨hb4.1,by omega,hb4.2.2⟩
      ·cases hl
     ·cases hl
    ·cases hl
  ·cases h
 ·rename_i hl; exact absurd h hl

abbrev Smp:=Int × Int × Int
def aSmp (xs:List Smp):Arr:=⟨Smp,3,fun x=>[.v (.int .i64 x.1), .v (.int .i64 x.2.1), .v (.int .i64 x.2.2)],[],fun _=>rfl,(by intro x c hc k hk; simp at hc; rcases hc with rfl | rfl | rfl <;> cases hk),xs,none,none⟩

def smpF (seed:List UInt8) (b:Int × Int) (m:Nat):List Smp:=(List.range m).map fun (k:Nat)=>(b.1,(k:Int)+1,(orderF seed b).getD k 0)

def drawF (p:Pl) (seed:List UInt8):List Smp:=p.bales.flatMap fun b=>smpF seed b p.per.toNat

theorem smpF_succ (seed:List UInt8) (b:Int × Int) (m:Nat):smpF seed b (m+1)=smpF seed b m ++ [(b.1,(m:Int)+1,(orderF seed b).getD m 0)]:=by
 simp [smpF,List.range_succ]

theorem smpF_length (seed:List UInt8) (b:Int × Int) (m:Nat):(smpF seed b m).length=m:=by simp [smpF]

theorem drawN_len (seed:List UInt8) (m:Nat):∀ bs:List (Int × Int),(bs.flatMap fun b=>smpF seed b m).length=bs.length * m
 | []=>by simp
 | b :: r=>by
  rw [List.flatMap_cons,List.length_append,smpF_length,drawN_len seed m r,List.length_cons,Nat.succ_mul,Nat.add_comm]

theorem draw_t (p:Pl) (hf:p.fib.length≤140737488355328) (hp:planF p=0) (seed:List UInt8) (hs:seed.length=16) :
  Triple Tryz.prog 15 [planS 0 p,arrS seed] [(0,false, .arr (aBale p.bales))] 1 (.tup [.inl (.s 1 0 (drawF p seed).length 3), .inl (.v (.int .i64 0))]) [(1,true, .arr (aSmp (drawF p seed)))]:=by
 have hok:=plan_ok hp
 have hlen:=hok.len
 obtain ⟨m,hm⟩:∃ m:Nat,p.per=m:=⟨p.per.toNat,by have:=hok.per; omega⟩
 have hper:=hok.per
 have hnm:p.per.toNat=m:=by omega
 refine triple_of tB_ok Tryz.func15 rfl Tryz.call15 rfl ?_
 intro ρ w hH
 conv=>whnf
 refine boxA_step (l:=seed) rfl rfl ?_
 rw [hs]
 conv=>whnf
 refine call_step (plan_t p hf (by omega)) rfl rfl ?_
 rw [hp]
 conv=>whnf
 refine⟨?_, ?_, ?_⟩
 iterate 2 · repeat'(first|exact trivial|exact rfl|refine And.intro ?_ ?_|((conv=>whnf);first|exact trivial|exact rfl|refine And.intro ?_ ?_|omega))
 conv=>whnf
 refine⟨fun hc=>absurd hc (by simp),fun hc=>?_⟩
 conv=>whnf
 refine loop_step tB_ok (G:=Nat) 1 [] (fun i=>[(23,iv .i64 i),(7, .c (.s 3 0 ((p.bales.take i).flatMap fun b=>smpF seed b m).length 3))]) (fun i=>[(3,true, .arr (aSmp ((p.bales.take i).flatMap fun b=>smpF seed b m)))])
  (fun i=>i≤p.bales.length) (fun i=>p.bales.length - i) ?_
 conv=>whnf
 refine⟨⟨0,Nat.zero_le _, ?_⟩, ?_⟩
 ·conv=>whnf
  repeat'(first|exact trivial|exact rfl|refine And.intro ?_ ?_|((conv=>whnf);first|exact trivial|exact rfl|refine And.intro ?_ ?_|omega))
 intro i hi ρ1 t1 hρ1
 conv=>whnf
 refine⟨fun hc=>?_,fun hc=>?_⟩
 ·have h:i < p.bales.length:=by simp at hc; omega
  have hb:=hok.bale p.bales[i] (List.getElem_mem h)
  have hol:=orderF_length seed p.bales[i]
  conv=>whnf
  refine⟨i,rfl,h,h, ?_⟩
  conv=>whnf
  refine loadA_step (l:=seed) tB_ok rfl rfl rfl rfl rfl hs.symm ?_
  conv=>whnf
  refine call_step (order_t seed hs p.bales[i] ⟨hb.1,by omega,hb.2.2⟩) rfl rfl ?_
  conv=>whnf
  refine⟨?_, ?_, ?_⟩
  iterate 2 · repeat'(first|exact trivial|exact rfl|refine And.intro ?_ ?_|((conv=>whnf);first|exact trivial|exact rfl|refine And.intro ?_ ?_|omega))
  conv=>whnf
  refine⟨fun hc=>absurd hc (by simp),fun hc=>?_⟩
  conv=>whnf
  refine⟨m,hm,by show m≤_; omega, ?_⟩
  conv=>whnf
  refine⟨Nat.zero_le _, ?_⟩
  conv=>whnf
  have hpre:((p.bales.take i).flatMap fun b=>smpF seed b m).length≤480:=by
   rw [drawN_len,List.length_take]
   calc _≤40 * 12:=Nat.mul_le_mul (by omega) (by omega)
    _=480:=rfl
  refine loop_step tB_ok (G:=Nat) 1 [3] (fun k=>[(41,iv .i64 k),(7, .c (.s 7 0 (((p.bales.take i).flatMap fun b=>smpF seed b m) ++ smpF seed p.bales[i] k).length 3))]) (fun k=>[(7,true, .arr (aSmp (((p.bales.take i).flatMap fun b=>smpF seed b m) ++ smpF seed p.bales[i] k)))])
   (fun k=>k≤m) (fun k=>m - k) ?_
  conv=>whnf
  refine⟨⟨0,Nat.zero_le _, ?_⟩, ?_⟩
  ·dsimp only
   rw [show smpF seed p.bales[i] 0=[] from rfl,List.append_nil]
   conv=>whnf
   repeat'(first|exact trivial|exact rfl|refine And.intro ?_ ?_|((conv=>whnf);first|exact trivial|exact rfl|refine And.intro ?_ ?_|omega))
  intro k hk ρ2 t2 hρ2
  generalize hpr:((p.bales.take i).flatMap fun b=>smpF seed b m)=pr at hpre ⊢
  conv=>whnf
  refine⟨fun hc=>?_,fun hc=>?_⟩
  ·have hkm:k < m:=by
    have hc:decide ((k:Int) < ((m - 0:Nat):Int))=true:=hc
    simp at hc; omega
   have hko:k < (orderF seed p.bales[i]).length:=by rw [hol]; omega
   have hko2:addN 0 k < (orderF seed p.bales[i]).length:=by rw [addN_eq]; omega
   have hv:(orderF seed p.bales[i])[addN 0 k]'hko2=(orderF seed p.bales[i]).getD k 0:=by
    simp only [addN_eq,Nat.zero_add,List.getD,List.getElem?_eq_getElem hko]; rfl
   have hst:=smpF_succ seed p.bales[i] k
   rw [← hv] at hst
   generalize hx:(p.bales[i].1,(k:Int)+1,(orderF seed p.bales[i])[addN 0 k]'hko2)=x at hst
   have hsl:=smpF_length seed p.bales[i] k
   conv=>whnf
   refine⟨k,rfl,by show k < m; omega, ?_⟩
   conv=>whnf
   refine⟨hko2, ?_⟩
   conv=>whnf
   refine⟨_,wrapId ⟨by omega,by omega⟩, ?_⟩
   conv=>whnf
   refine bs_step tB_ok (aSmp [(p.bales[i].1,(k:Int)+1,(orderF seed p.bales[i])[addN 0 k]'hko2)]) rfl rfl ?_
   conv=>whnf
   refine⟨⟨rfl,(by repeat'(first|exact trivial|exact rfl|refine And.intro ?_ ?_|((conv=>whnf);first|exact trivial|exact rfl|refine And.intro ?_ ?_|omega)))⟩, ?_⟩
   rw [hx]
   conv=>whnf
   refine app_step tB_ok (aSmp (pr ++ smpF seed p.bales[i] k)) [x] (fun _=>rfl) rfl rfl rfl rfl ?_
   conv=>whnf
   refine⟨⟨rfl,rfl,Nat.le_refl _,Nat.le_refl _,by show ((pr ++ smpF seed p.bales[i] k).length+1) * 25≤140737488355328; rw [List.length_append,hsl]; omega⟩, ?_⟩
   conv=>whnf
   refine⟨_,wrapId ⟨by omega,by omega⟩, ?_⟩
   refine⟨k+1,hkm,by show m - (k+1) < m - k; omega, ?_⟩
   dsimp only
   have e2:aSmp ((pr ++ smpF seed p.bales[i] k).take (pr ++ smpF seed p.bales[i] k).length ++ (([x]:List Smp).drop 0).take 1)=aSmp (pr ++ smpF seed p.bales[i] k ++ [x]):=congrArg aSmp app1
   have e3:(pr ++ smpF seed p.bales[i] k ++ [x]).length=(pr ++ smpF seed p.bales[i] k).length+1:=by rw [List.length_append]; rfl
   rw [hst,← List.append_assoc,e3,← e2]
   conv=>whnf
   refine⟨rfl, ?_⟩
   conv=>whnf
   repeat'(first|exact trivial|exact rfl|refine And.intro ?_ ?_|((conv=>whnf);first|exact trivial|exact rfl|refine And.intro ?_ ?_|omega))
  ·have hkm:k=m:=by
    have hc:decide ((k:Int) < ((m - 0:Nat):Int))=false:=hc
    simp at hc; omega
   subst hkm
   have hst:((p.bales.take (i+1)).flatMap fun b=>smpF seed b k)=pr ++ smpF seed p.bales[i] k:=by
    rw [take_snoc h,List.flatMap_append,hpr]; simp
   conv=>whnf
   refine⟨_,wrapId ⟨by omega,by omega⟩, ?_⟩
   refine⟨i+1,h,by show p.bales.length - (i+1) < p.bales.length - i; omega, ?_⟩
   dsimp only
   rw [hst]
   conv=>whnf
   refine⟨rfl, ?_⟩
   conv=>whnf
   repeat'(first|exact trivial|exact rfl|refine And.intro ?_ ?_|((conv=>whnf);first|exact trivial|exact rfl|refine And.intro ?_ ?_|omega))
 ·have hie:i=p.bales.length:=by simp at hc; omega
  subst hie
  have e:((p.bales.take p.bales.length).flatMap fun b=>smpF seed b m)=drawF p seed:=by rw [List.take_length]; simp only [drawF,hnm]
  rw [e]
  conv=>whnf
  repeat'(first|exact trivial|exact rfl|refine And.intro ?_ ?_|((conv=>whnf);first|exact trivial|exact rfl|refine And.intro ?_ ?_|omega))

end Go.Proofs

namespace Go.Proofs
open Go.Sx

theorem equal_t (xs ys:List Smp) (hx:xs.length≤1000000) (hy:ys.length≤1000000):Triple Tryz.prog 45 [.c (.s 0 0 xs.length 3), .c (.s 1 0 ys.length 3)]
  [(0,false, .arr (aSmp xs)),(1,false, .arr (aSmp ys))] 2 (bv (decide (xs=ys))) []:=by
 refine triple_of tB_ok Tryz.func45 rfl Tryz.call45 rfl ?_
 intro ρ w hH
 conv=>whnf
 refine⟨fun hc=>?_,fun hc=>?_⟩
 ·have hne:xs ≠ ys:=by
   rintro rfl
   simp at hc
  rw [show decide (xs=ys)=false from decide_eq_false hne]
  conv=>whnf
  repeat'(first|exact trivial|exact rfl|refine And.intro ?_ ?_|((conv=>whnf);first|exact trivial|exact rfl|refine And.intro ?_ ?_|omega))
 have hlen:xs.length=ys.length:=by simp at hc; omega
 conv=>whnf
 refine loop_step tB_ok (G:=Nat) 0 [] (fun i=>[(13,iv .i64 i)]) (fun _=>[]) (fun i=>i≤xs.length∧xs.take i=ys.take i) (fun i=>xs.length - i) ?_
 conv=>whnf
 refine⟨⟨0,⟨Nat.zero_le _,rfl⟩, ?_⟩, ?_⟩
 ·conv=>whnf
  repeat'(first|exact trivial|exact rfl|refine And.intro ?_ ?_|((conv=>whnf);first|exact trivial|exact rfl|refine And.intro ?_ ?_|omega))
 rintro i ⟨hi,heq⟩ ρ1 t1 hρ1
 have hi:i≤xs.length:=hi
 have heq:xs.take i=ys.take i:=heq
 conv=>whnf
 refine⟨fun hc=>?_,fun hc=>?_⟩
 ·have h:i < xs.length:=by simp at hc; omega
  have h2:i < ys.length:=by omega
  conv=>whnf
  refine⟨i,rfl,h, ?_⟩
  conv=>whnf
  refine⟨h, ?_⟩
  conv=>whnf
  refine⟨i,rfl,h2, ?_⟩
  conv=>whnf
  refine⟨h2, ?_⟩
  conv=>whnf
  refine⟨fun hc=>?_,fun hc=>?_⟩
  ·have hne:xs ≠ ys:=by
    rintro rfl
    simp at hc
   rw [show decide (xs=ys)=false from decide_eq_false hne]
   conv=>whnf
   repeat'(first|exact trivial|exact rfl|refine And.intro ?_ ?_|((conv=>whnf);first|exact trivial|exact rfl|refine And.intro ?_ ?_|omega))
  ·have hc:([xs[i].1,xs[i].2.1,xs[i].2.2] != [ys[i].1,ys[i].2.1,ys[i].2.2])=false:=hc
   have hE:xs[i]=ys[i]:=by
    simp at hc
    exact Prod.ext hc.1 (Prod.ext hc.2.1 hc.2.2)
   conv=>whnf
   refine⟨_,wrapId ⟨by omega,by omega⟩, ?_⟩
   refine⟨i+1,⟨h,by rw [take_snoc h,take_snoc h2,heq,hE]⟩,by show xs.length - (i+1) < xs.length - i; omega, ?_⟩
   conv=>whnf
   refine⟨rfl, ?_⟩
   conv=>whnf
   repeat'(first|exact trivial|exact rfl|refine And.intro ?_ ?_|((conv=>whnf);first|exact trivial|exact rfl|refine And.intro ?_ ?_|omega))
 ·have hie:i=xs.length:=by simp at hc; omega
  subst hie
  have:xs=ys:=by rw [List.take_length,hlen,List.take_length] at heq; exact heq
  rw [show decide (xs=ys)=true from decide_eq_true this]
  conv=>whnf
  repeat'(first|exact trivial|exact rfl|refine And.intro ?_ ?_|((conv=>whnf);first|exact trivial|exact rfl|refine And.intro ?_ ?_|omega))

theorem checkDraw_t (p:Pl) (hf:p.fib.length≤140737488355328) (hp:planF p=0) (db ds:List UInt8) (hdb:db.length=16) (hds:ds.length=16) (b s:Sec) (hb:opensF 1 db b=true) (hs:opensF 2 ds s=true) (l:List Smp) (hl:l.length≤1000000) :
  Triple Tryz.prog 13 [planS 0 p,arrS db,arrS ds,secV b,secV s, .c (.s 1 0 l.length 3)] [(0,false, .arr (aBale p.bales)),(1,false, .arr (aSmp l))] 2
   (iv .i64 (if drawF p (jointE p.id b s).1=l then 0 else 8)) []:=by
 have hok:=plan_ok hp
 have hlen:=hok.len
 have hsb:secOK b=true:=by unfold opensF at hb; simp at hb; exact hb.1
 have hss:secOK s=true:=by unfold opensF at hs; simp at hs; exact hs.1
 have hj2:(jointE p.id b s).2=0:=by simp [jointE,hsb,hss]
 have hj1:=jointE_len p.id b s
 have hdl:(drawF p (jointE p.id b s).1).length≤480:=by
  unfold drawF
  rw [drawN_len]
  calc _≤40 * 12:=Nat.mul_le_mul (by omega) (by have:=hok.per; omega)
   _=480:=rfl
 refine triple_of tB_ok Tryz.func13 rfl Tryz.call13 rfl ?_
 intro ρ w hH
 conv=>whnf
 refine boxA_step (l:=db) rfl rfl ?_
 rw [hdb]
 conv=>whnf
 refine boxA_step (l:=ds) rfl rfl ?_
 rw [hds]
 conv=>whnf
 refine call_step (plan_t p hf (by omega)) rfl rfl ?_
 rw [hp]
 conv=>whnf
 refine⟨?_, ?_, ?_⟩
 iterate 2 · repeat'(first|exact trivial|exact rfl|refine And.intro ?_ ?_|((conv=>whnf);first|exact trivial|exact rfl|refine And.intro ?_ ?_|omega))
 conv=>whnf
 refine⟨fun hc=>absurd hc (by simp),fun hc=>?_⟩
 conv=>whnf
 refine loadA_step (l:=db) tB_ok rfl rfl rfl rfl rfl hdb.symm ?_
 conv=>whnf
 refine call_step (opens_t 1 (by decide) db hdb b) rfl rfl ?_
 rw [hb]
 conv=>whnf
 refine⟨?_, ?_, ?_⟩
 iterate 2 · repeat'(first|exact trivial|exact rfl|refine And.intro ?_ ?_|((conv=>whnf);first|exact trivial|exact rfl|refine And.intro ?_ ?_|omega))
 conv=>whnf
 refine⟨fun hc=>absurd hc (by simp),fun hc=>?_⟩
 conv=>whnf
 refine loadA_step (l:=ds) tB_ok rfl rfl rfl rfl rfl hds.symm ?_
 conv=>whnf
 refine call_step (opens_t 2 (by decide) ds hds s) rfl rfl ?_
 rw [hs]
 conv=>whnf
 refine⟨?_, ?_, ?_⟩
 iterate 2 · repeat'(first|exact trivial|exact rfl|refine And.intro ?_ ?_|((conv=>whnf);first|exact trivial|exact rfl|refine And.intro ?_ ?_|omega))
 conv=>whnf
 refine⟨fun hc=>absurd hc (by simp),fun hc=>?_⟩
 conv=>whnf
 refine call_step (joint_t p.id hok.id b s) rfl rfl ?_
 rw [hj2]
 conv=>whnf
 refine⟨?_, ?_, ?_⟩
 iterate 2 · repeat'(first|exact trivial|exact rfl|refine And.intro ?_ ?_|((conv=>whnf);first|exact trivial|exact rfl|refine And.intro ?_ ?_|omega))
 conv=>whnf
 refine allocA_step tB_ok 16 rfl rfl rfl ?_
 conv=>whnf
 refine storeA_step (l':=(jointE p.id b s).1) tB_ok rfl rfl rfl rfl rfl (by simp) (by rw [hj1]; simp) (by decide) ?_
 conv=>whnf
 refine⟨fun hc=>absurd hc (by simp),fun hc=>?_⟩
 conv=>whnf
 refine loadA_step (l:=(jointE p.id b s).1) tB_ok rfl rfl rfl rfl rfl hj1.symm ?_
 conv=>whnf
 refine call_step (draw_t p hf hp (jointE p.id b s).1 hj1) rfl rfl ?_
 conv=>whnf
 refine⟨?_, ?_, ?_⟩
 iterate 2 · repeat'(first|exact trivial|exact rfl|refine And.intro ?_ ?_|((conv=>whnf);first|exact trivial|exact rfl|refine And.intro ?_ ?_|omega))
 conv=>whnf
 refine⟨fun hc=>absurd hc (by simp),fun hc=>?_⟩
 conv=>whnf
 refine call_step (equal_t (drawF p (jointE p.id b s).1) l (by omega) hl) rfl rfl ?_
 conv=>whnf
 refine⟨?_, ?_, ?_⟩
 iterate 2 · repeat'(first|exact trivial|exact rfl|refine And.intro ?_ ?_|((conv=>whnf);first|exact trivial|exact rfl|refine And.intro ?_ ?_|omega))
 conv=>whnf
 refine⟨fun hc=>?_,fun hc=>?_⟩
 ·have hne:¬ drawF p (jointE p.id b s).1=l:=by simpa using hc
  rw [if_neg hne]
  conv=>whnf
  repeat'(first|exact trivial|exact rfl|refine And.intro ?_ ?_|((conv=>whnf);first|exact trivial|exact rfl|refine And.intro ?_ ?_|omega))
 ·have hne:drawF p (jointE p.id b s).1=l:=by simpa using hc
  rw [if_pos hne]
  conv=>whnf
  repeat'(first|exact trivial|exact rfl|refine And.intro ?_ ?_|((conv=>whnf);first|exact trivial|exact rfl|refine And.intro ?_ ?_|omega))

end Go.Proofs

