/-
  A part of the proof that a law answers true: lemmas of a symbolic walk, plain functions, or contracts of the functions walked (Pm20, Pm21, Pm22, Pm23, Pm24, Pm25). Conditions: none.
-/
import Derived.Test.YtagedjfjcnemoaaGreatPart13
import Derived.Test.YtagedjfjcnemoaaGreatPart09
set_option maxRecDepth 100000
set_option linter.unusedVariables false
set_option linter.unusedSimpArgs false
/-
  Plain lemmas,part 20: lists in a strict order,each element once. Conditions: none; definitions and plain lemmas.
-/
namespace Go
namespace Proofs

structure LtOK {α:Type} (lt:α → α → Bool):Prop where
  irr:∀ x,lt x x=false
  tr:∀ x y z,lt x y=true → lt y z=true → lt x z=true
  tot:∀ x y,x ≠ y → lt x y=true ∨ lt y x=true

abbrev Inc {α:Type} (lt:α → α → Bool) (l:List α):Prop:=l.Pairwise fun x y=>lt x y=true

theorem inc_extG {α:Type} {lt:α → α → Bool} (irr:∀ x,lt x x=false) (tr:∀ x y z,lt x y=true → lt y z=true → lt x z=true):∀ {a b:List α},Inc lt a → Inc lt b → (∀ x,x ∈ a ↔ x ∈ b) → a=b
  | [],[],_,_,_=>rfl
  | [],y :: r,_,_,h=>by have:=(h y).2 (by simp); simp at this
  | x :: r,[],_,_,h=>by have:=(h x).1 (by simp); simp at this
  | x :: r,y :: q,ha,hb,h=>by
    obtain ⟨ha1,ha2⟩:=List.pairwise_cons.1 ha
    obtain ⟨hb1,hb2⟩:=List.pairwise_cons.1 hb
    have hxy:x=y:=by
      have h1:=(h x).1 (by simp)
      have h2:=(h y).2 (by simp)
      rcases List.mem_cons.1 h1 with h1 | h1
      · exact h1
      · rcases List.mem_cons.1 h2 with h2 | h2
        · exact h2.symm
        · have:=tr _ _ _ (hb1 x h1) (ha1 y h2)
          rw [irr] at this; cases this
    subst hxy
    have:r=q:=by
      refine inc_extG irr tr ha2 hb2 fun z=>?_
      constructor
      · intro hz
        rcases List.mem_cons.1 ((h z).1 (List.mem_cons_of_mem _ hz)) with h1 | h1
        · have:=ha1 z hz; rw [h1,irr] at this; cases this
        · exact h1
      · intro hz
        rcases List.mem_cons.1 ((h z).2 (List.mem_cons_of_mem _ hz)) with h1 | h1
        · have:=hb1 z hz; rw [h1,irr] at this; cases this
        · exact h1
    rw [this]

theorem Inc.nodup {α:Type} {lt:α → α → Bool} (irr:∀ x,lt x x=false) {l:List α} (h:Inc lt l):l.Nodup :=
  List.Pairwise.imp (fun {a b} hab=>by rintro rfl; rw [irr] at hab; cases hab) h

def insS {α:Type} [DecidableEq α] (lt:α → α → Bool):List α → α → List α
  | [],x=>[x]
  | y :: r,x=>if y=x then y :: r else bif lt x y then x :: y :: r else y :: insS lt r x

theorem insS_mem {α:Type} [DecidableEq α] {lt:α → α → Bool} {x z:α}:∀ {l:List α},z ∈ insS lt l x ↔ z ∈ l ∨ z=x
  | []=>by simp [insS]
  | y :: r=>by
    unfold insS
    by_cases h:y=x
    · rw [if_pos h]
      constructor
      · exact .inl
      · rintro (hz | rfl)
        · exact hz
        · rw [h]; exact List.mem_cons_self ..
    · rw [if_neg h]
      cases hl:lt x y with
      | true =>
        simp only [cond_true,List.mem_cons]
        constructor
        · rintro (h | h | h)
          · exact .inr h
          · exact .inl (.inl h)
          · exact .inl (.inr h)
        · rintro ((h | h) | h)
          · exact .inr (.inl h)
          · exact .inr (.inr h)
          · exact .inl h
      | false =>
        simp only [cond_false,List.mem_cons,insS_mem (l:=r)]
        constructor
        · rintro (h | h | h)
          · exact .inl (.inl h)
          · exact .inl (.inr h)
          · exact .inr h
        · rintro ((h | h) | h)
          · exact .inl h
          · exact .inr (.inl h)
          · exact .inr (.inr h)

theorem insS_inc {α:Type} [DecidableEq α] {lt:α → α → Bool} (ok:LtOK lt) {x:α}:∀ {l:List α},Inc lt l → Inc lt (insS lt l x)
  | [],_=>by simp [insS]
  | y :: r,h=>by
    obtain ⟨h1,h2⟩:=List.pairwise_cons.1 h
    unfold insS
    by_cases hy:y=x
    · rw [if_pos hy]; exact h
    · rw [if_neg hy]
      cases hl:lt x y with
      | true =>
        simp only [cond_true]
        refine List.pairwise_cons.2 ⟨fun z hz=>?_,h⟩
        rcases List.mem_cons.1 hz with rfl | hz
        · exact hl
        · exact ok.tr _ _ _ hl (h1 z hz)
      | false =>
        simp only [cond_false]
        refine List.pairwise_cons.2 ⟨fun z hz=>?_,insS_inc ok h2⟩
        rcases insS_mem.1 hz with hz | rfl
        · exact h1 z hz
        · rcases ok.tot y z hy with h | h
          · exact h
          · rw [h] at hl; cases hl

theorem insS_len {α:Type} [DecidableEq α] {lt:α → α → Bool} {x:α}:∀ {l:List α},(insS lt l x).length≤l.length+1
  | []=>by simp [insS]
  | y :: r=>by
    have:=insS_len (lt:=lt) (x:=x) (l:=r)
    unfold insS
    split
    · simp
    · cases lt x y <;> simp <;> omega

def distS {α:Type} [DecidableEq α] (lt:α → α → Bool) (l:List α):List α:=l.foldl (insS lt) []

theorem distS_gen {α:Type} [DecidableEq α] {lt:α → α → Bool} (ok:LtOK lt):∀ (l:List α) {o:List α},Inc lt o → Inc lt (l.foldl (insS lt) o)∧(∀ z,z ∈ l.foldl (insS lt) o ↔ z ∈ o ∨ z ∈ l)∧(l.foldl (insS lt) o).length≤o.length+l.length
  | [],o,h=>⟨h,fun z=>by simp,by simp⟩
  | x :: r,o,h=>by
    obtain ⟨h1,h2,h3⟩:=distS_gen ok r (insS_inc ok h (x:=x))
    refine⟨h1,fun z=>?_, ?_⟩
    · simp only [List.foldl_cons]
      rw [h2 z,insS_mem,List.mem_cons]
      constructor
      · rintro ((h | h) | h)
        · exact .inl h
        · exact .inr (.inl h)
        · exact .inr (.inr h)
      · rintro (h | h | h)
        · exact .inl (.inl h)
        · exact .inl (.inr h)
        · exact .inr h
    · have:=insS_len (lt:=lt) (x:=x) (l:=o)
      simp only [List.foldl_cons,List.length_cons]
      omega

theorem distS_inc {α:Type} [DecidableEq α] {lt:α → α → Bool} (ok:LtOK lt) (l:List α):Inc lt (distS lt l):=(distS_gen ok l List.Pairwise.nil).1
theorem distS_mem {α:Type} [DecidableEq α] {lt:α → α → Bool} (ok:LtOK lt) {l:List α} {z:α}:z ∈ distS lt l ↔ z ∈ l:=by
  have:=(distS_gen ok l (o:=[]) List.Pairwise.nil).2.1 z
  simpa [distS] using this
theorem distS_len {α:Type} [DecidableEq α] {lt:α → α → Bool} (ok:LtOK lt) (l:List α):(distS lt l).length≤l.length:=by
  have:=(distS_gen ok l (o:=[]) List.Pairwise.nil).2.2
  simpa [distS] using this

theorem distS_unique {α:Type} [DecidableEq α] {lt:α → α → Bool} (ok:LtOK lt) {l o:List α} (h:Inc lt o) (hm:∀ z,z ∈ o ↔ z ∈ l):o=distS lt l :=
  inc_extG ok.irr ok.tr h (distS_inc ok l) fun z=>(hm z).trans (distS_mem ok).symm

def compS {α:Type} [DecidableEq α]:List α → List α
  | []=>[]
  | [x]=>[x]
  | x :: y :: r=>if x=y then compS (y :: r) else x :: compS (y :: r)

theorem compS_mem {α:Type} [DecidableEq α] {z:α}:∀ {l:List α},z ∈ compS l ↔ z ∈ l
  | []=>by simp [compS]
  | [x]=>by simp [compS]
  | x :: y :: r=>by
    unfold compS
    by_cases h:x=y
    · rw [if_pos h,compS_mem,h]; simp
    · rw [if_neg h,List.mem_cons,compS_mem,List.mem_cons,List.mem_cons,List.mem_cons]

theorem compS_inc {α:Type} [DecidableEq α] {lt:α → α → Bool} (ok:LtOK lt):∀ {l:List α},l.Pairwise (fun x y=>lt y x=false) → Inc lt (compS l)
  | [],_=>by simp [compS]
  | [x],_=>by simp [compS]
  | x :: y :: r,h=>by
    obtain ⟨h1,h2⟩:=List.pairwise_cons.1 h
    unfold compS
    by_cases hxy:x=y
    · rw [if_pos hxy]; exact compS_inc ok h2
    · rw [if_neg hxy]
      refine List.pairwise_cons.2 ⟨fun z hz=>?_,compS_inc ok h2⟩
      have hz:=compS_mem.1 hz
      have h3:=h1 z hz
      have h4:lt x y=true:=by
        rcases ok.tot x y hxy with h | h
        · exact h
        · rw [h1 y (by simp)] at h; cases h
      rcases List.mem_cons.1 hz with rfl | hz
      · exact h4
      · have h5:=(List.pairwise_cons.1 h2).1 z hz
        by_cases hyz:y=z
        · rw [← hyz]; exact h4
        · rcases ok.tot y z hyz with h | h
          · exact ok.tr _ _ _ h4 h
          · rw [h5] at h; cases h

def idLt {α:Type} (key:α → Int) (x y:α):Bool:=decide (key x < key y)

theorem idLt_irr {α:Type} (key:α → Int) (x:α):idLt key x x=false:=by simp [idLt]
theorem idLt_tr {α:Type} (key:α → Int) (x y z:α) (h1:idLt key x y=true) (h2:idLt key y z=true):idLt key x z=true:=by
  simp [idLt] at *; omega

def insK {α:Type} (key:α → Int):List α → α → List α
  | [],x=>[x]
  | y :: r,x=>bif decide (key x < key y) then x :: y :: r else y :: insK key r x

def sortK {α:Type} (key:α → Int) (l:List α):List α:=l.foldl (insK key) []

theorem insK_perm {α:Type} (key:α → Int) (x:α):∀ l:List α,(insK key l x).Perm (x :: l)
  | []=>.refl _
  | y :: r=>by
    unfold insK
    cases decide (key x < key y) with
    | true=>exact .refl _
    | false=>exact ((insK_perm key x r).cons y).trans (.swap ..)

theorem sortK_permG {α:Type} (key:α → Int):∀ (l o:List α),(l.foldl (insK key) o).Perm (o ++ l)
  | [],o=>by simp
  | x :: r,o=>by
    refine (sortK_permG key r _).trans ?_
    refine ((insK_perm key x o).append_right r).trans ?_
    rw [List.cons_append]
    exact List.perm_middle.symm

theorem sortK_perm {α:Type} (key:α → Int) (l:List α):(sortK key l).Perm l:=by
  have:=sortK_permG key l []
  rw [List.nil_append] at this
  exact this

theorem insK_le {α:Type} (key:α → Int) (x:α):∀ {l:List α},l.Pairwise (fun a b=>key a≤key b) → (insK key l x).Pairwise (fun a b=>key a≤key b)
  | [],_=>by simp [insK]
  | y :: r,h=>by
    obtain ⟨h1,h2⟩:=List.pairwise_cons.1 h
    unfold insK
    cases hd:decide (key x < key y) with
    | true =>
      have hd:key x < key y:=of_decide_eq_true hd
      refine List.pairwise_cons.2 ⟨fun z hz=>?_,h⟩
      rcases List.mem_cons.1 hz with rfl | hz
      · omega
      · have:=h1 z hz; omega
    | false =>
      have hd:¬ key x < key y:=of_decide_eq_false hd
      refine List.pairwise_cons.2 ⟨fun z hz=>?_,insK_le key x h2⟩
      rcases List.mem_cons.1 ((insK_perm key x r).mem_iff.1 hz) with rfl | hz
      · omega
      · exact h1 z hz

theorem sortK_leG {α:Type} (key:α → Int):∀ (l:List α) {o:List α},o.Pairwise (fun a b=>key a≤key b) → (l.foldl (insK key) o).Pairwise (fun a b=>key a≤key b)
  | [],_,h=>h
  | x :: r,_,h=>sortK_leG key r (insK_le key x h)

theorem sortK_le {α:Type} (key:α → Int) (l:List α):(sortK key l).Pairwise (fun a b=>key a≤key b):=sortK_leG key l List.Pairwise.nil

theorem sortK_inc {α:Type} {key:α → Int} {l:List α} (h:(l.map key).Nodup):Inc (idLt key) (sortK key l):=by
  have h1:=sortK_le key l
  have h2:((sortK key l).map key).Nodup:=((sortK_perm key l).map key).nodup_iff.2 h
  have h3:(sortK key l).Pairwise fun a b=>key a ≠ key b:=List.pairwise_map.1 h2
  exact (h1.and h3).imp fun {a b} hab=>by simp [idLt]; omega

theorem sortK_unique {α:Type} {key:α → Int} {l o:List α} (h:(l.map key).Nodup) (hp:o.Perm l) (hs:o.Pairwise (fun a b=>key a≤key b)):o=sortK key l:=by
  have h2:(o.map key).Nodup:=(hp.map key).nodup_iff.2 h
  have h3:o.Pairwise fun a b=>key a ≠ key b:=List.pairwise_map.1 h2
  have h4:Inc (idLt key) o:=(hs.and h3).imp fun {a b} hab=>by simp [idLt]; omega
  exact inc_extG (idLt_irr key) (idLt_tr key) h4 (sortK_inc h) fun z=>(hp.mem_iff).trans (sortK_perm key l).mem_iff.symm

end Proofs
end Go

/-
  Plain lemmas,part 21: readings of balances: what is checked,what they show,objects,moments,corrections,the system. Conditions: none; definitions and plain lemmas.
-/
namespace Go
namespace Proofs

structure Bal where
  id:Int
  half:Int
  lo:Int
  hi:Int
  dr:Int
  cap:Int
  deriving DecidableEq,Inhabited

structure Chk where
  id:Int
  bal:Int
  tick:Int
  mass:Int
  shown:Int
  deriving DecidableEq,Inhabited

structure Ntc where
  id:Int
  bal:Int
  wlo:Int
  whi:Int
  slo:Int
  shi:Int
  deriving DecidableEq,Inhabited

structure Thg where
  lot:Int
  bale:Int
  smp:Int
  st:Int
  deriving DecidableEq,Inhabited

structure Wgh where
  id:Int
  bal:Int
  tick:Int
  o:Thg
  shown:Int
  deriving DecidableEq,Inhabited

structure Mom where
  bal:Int
  tick:Int
  deriving DecidableEq,Inhabited

structure Rd where
  bs:List Bal
  cs:List Chk
  ns:List Ntc
  ws:List Wgh

def balL (x:Bal):List Int:=[x.id,x.half,x.lo,x.hi,x.dr,x.cap]
def chkL (x:Chk):List Int:=[x.id,x.bal,x.tick,x.mass,x.shown]
def ntcL (x:Ntc):List Int:=[x.id,x.bal,x.wlo,x.whi,x.slo,x.shi]
def thgL (x:Thg):List Int:=[x.lot,x.bale,x.smp,x.st]
def wghL (x:Wgh):List Int:=[x.id,x.bal,x.tick,x.o.lot,x.o.bale,x.o.smp,x.o.st,x.shown]
def momL (x:Mom):List Int:=[x.bal,x.tick]

def wMom (w:Wgh):Mom:=⟨w.bal,w.tick⟩
def cMom (c:Chk):Mom:=⟨c.bal,c.tick⟩

def insideF (lo hi a b:Int):Bool:=decide (a≤lo) && decide (lo≤hi) && decide (hi≤b)

def validF (b:Bal):Bool:=withinF b.id 1 1099511627776 && (withinF b.half 0 1000 && (insideF b.lo b.hi (-1000000) 1000000 && (withinF b.dr 0 1000 && withinF b.cap 1 10000000)))

def thgF (o:Thg):Bool:=withinF o.lot 1 1099511627776 && (withinF o.bale 1 1099511627776 && (bif (o.st == 1 || o.st == 2) then o.smp == 0 else bif (o.st == 3 || o.st == 4) then withinF o.smp 1 1099511627776 else false))

def zBal:Bal:=⟨0,0,0,0,0,0⟩
def findB (bs:List Bal) (id:Int):Option Bal:=bs.find? fun b=>b.id == id
def findD (bs:List Bal) (id:Int):Bal:=(findB bs id).getD zBal
def hasB (bs:List Bal) (id:Int):Bool:=(findB bs id).isSome

def chkF (bs:List Bal) (c:Chk):Bool:=hasB bs c.bal && (withinF c.tick 0 1000000 && (withinF c.mass 0 (findD bs c.bal).cap && withinF c.shown 0 10000000))
def ntcF (bs:List Bal) (n:Ntc):Bool:=hasB bs n.bal && (insideF n.wlo n.whi 0 1000000 && insideF n.slo n.shi (-1000000) 1000000)
def wghF (bs:List Bal) (w:Wgh):Bool:=hasB bs w.bal && (withinF w.tick 0 1000000 && (thgF w.o && withinF w.shown 0 10000000))

def errF:List Int → List (Int × Bool) → Int
  | _,[]=>0
  | seen,(i,ok) :: r=>bif !ok then 1 else bif seen.contains i then 6 else errF (seen ++ [i]) r

def idOK (i:Int):Bool:=withinF i 1 1099511627776

def balP (b:Bal):Int × Bool:=(b.id,validF b)
def chkP (bs:List Bal) (c:Chk):Int × Bool:=(c.id,idOK c.id && chkF bs c)
def ntcP (bs:List Bal) (n:Ntc):Int × Bool:=(n.id,idOK n.id && ntcF bs n)
def wghP (bs:List Bal) (w:Wgh):Int × Bool:=(w.id,idOK w.id && wghF bs w)

def rdErrs (r:Rd):List (Int × Bool):=r.cs.map (chkP r.bs) ++ (r.ns.map (ntcP r.bs) ++ r.ws.map (wghP r.bs))

def checkR (r:Rd):Int :=
  bif decide (8 < r.bs.length) || decide (100 < r.cs.length+r.ns.length+r.ws.length) then 2
  else bif errF [] (r.bs.map balP) == 0 then errF [] (rdErrs r) else errF [] (r.bs.map balP)

theorem errF_zero:∀ {l:List (Int × Bool)} {seen:List Int},errF seen l=0 ↔ (∀ p ∈ l,p.2=true∧p.1 ∉ seen)∧(l.map Prod.fst).Nodup
  | [],_=>by simp [errF]
  | (i,ok) :: r,seen=>by
    unfold errF
    cases ok with
    | false =>
      simp only [Bool.not_false,cond_true,List.mem_cons,List.map_cons]
      constructor
      · intro h; cases h
      · rintro ⟨h,_⟩; have:=(h _ (.inl rfl)).1; cases this
    | true =>
      simp only [Bool.not_true,cond_false]
      cases hc:seen.contains i with
      | true =>
        have hm:i ∈ seen:=by simpa using hc
        simp only [cond_true]
        constructor
        · intro h; cases h
        · rintro ⟨h,_⟩; exact absurd hm (h (i,true) (List.mem_cons_self ..)).2
      | false =>
        have hm:i ∉ seen:=by simpa using hc
        simp only [cond_false]
        rw [errF_zero (l:=r)]
        simp only [List.map_cons,List.nodup_cons,List.mem_cons,List.mem_append,List.mem_singleton,List.mem_map]
        constructor
        · rintro ⟨h1,h2⟩
          refine⟨?_, ?_,h2⟩
          · rintro p (rfl | hp)
            · exact⟨rfl,hm⟩
            · exact⟨(h1 p hp).1,fun hs=>(h1 p hp).2 (.inl hs)⟩
          · rintro ⟨p,hp,rfl⟩
            exact (h1 p hp).2 (.inr (.inl rfl))
        · rintro ⟨h1,h2,h3⟩
          refine⟨fun p hp=>⟨(h1 p (.inr hp)).1, ?_⟩,h3⟩
          rintro (hs | hs | hs)
          · exact (h1 p (.inr hp)).2 hs
          · exact h2 ⟨p,hp,hs⟩
          · cases hs

structure RdOK (r:Rd):Prop where
  nb:r.bs.length≤8
  nr:r.cs.length+r.ns.length+r.ws.length≤100
  bal:∀ b ∈ r.bs,validF b=true
  balN:(r.bs.map Bal.id).Nodup
  chk:∀ c ∈ r.cs,idOK c.id=true∧chkF r.bs c=true
  ntc:∀ n ∈ r.ns,idOK n.id=true∧ntcF r.bs n=true
  wgh:∀ w ∈ r.ws,idOK w.id=true∧wghF r.bs w=true
  ids:(r.cs.map Chk.id ++ (r.ns.map Ntc.id ++ r.ws.map Wgh.id)).Nodup

theorem rdErrs_fst (r:Rd):(rdErrs r).map Prod.fst=r.cs.map Chk.id ++ (r.ns.map Ntc.id ++ r.ws.map Wgh.id):=by
  unfold rdErrs
  rw [List.map_append,List.map_append,List.map_map,List.map_map,List.map_map]
  rfl

theorem checkR_ok {r:Rd}:checkR r=0 ↔ RdOK r:=by
  unfold checkR
  cases hl:(decide (8 < r.bs.length) || decide (100 < r.cs.length+r.ns.length+r.ws.length)) with
  | true =>
    simp only [cond_true]
    refine⟨fun h=>(by cases h),fun h=>?_⟩
    have:=h.nb; have:=h.nr
    simp at hl; omega
  | false =>
    simp at hl
    simp only [cond_false]
    have hb:=errF_zero (l:=r.bs.map balP) (seen:=[])
    have hr:=errF_zero (l:=rdErrs r) (seen:=[])
    rw [rdErrs_fst] at hr
    have hbi:(r.bs.map balP).map Prod.fst=r.bs.map Bal.id:=by rw [List.map_map]; rfl
    rw [hbi] at hb
    by_cases h0:errF [] (r.bs.map balP)=0
    · have h0b:(errF [] (r.bs.map balP) == 0)=true:=by simpa using h0
      rw [h0b,cond_true,hr]
      obtain ⟨b1,b2⟩:=hb.1 h0
      constructor
      · rintro ⟨h1,h2⟩
        refine⟨by omega,by omega,fun b hbm=>(b1 _ (List.mem_map.2 ⟨b,hbm,rfl⟩)).1,b2,fun c hc=>?_,fun c hc=>?_,fun c hc=>?_,h2⟩
        · have:=(h1 (chkP r.bs c) (List.mem_append.2 (.inl (List.mem_map.2 ⟨c,hc,rfl⟩)))).1
          simpa [chkP] using this
        · have:=(h1 (ntcP r.bs c) (List.mem_append.2 (.inr (List.mem_append.2 (.inl (List.mem_map.2 ⟨c,hc,rfl⟩)))))).1
          simpa [ntcP] using this
        · have:=(h1 (wghP r.bs c) (List.mem_append.2 (.inr (List.mem_append.2 (.inr (List.mem_map.2 ⟨c,hc,rfl⟩)))))).1
          simpa [wghP] using this
      · intro h
        refine⟨fun p hp=>⟨?_,by simp⟩,h.ids⟩
        rcases List.mem_append.1 hp with hp | hp
        · obtain ⟨c,hc,rfl⟩:=List.mem_map.1 hp
          have:=h.chk c hc; simp [chkP,this.1,this.2]
        · rcases List.mem_append.1 hp with hp | hp
          · obtain ⟨c,hc,rfl⟩:=List.mem_map.1 hp
            have:=h.ntc c hc; simp [ntcP,this.1,this.2]
          · obtain ⟨c,hc,rfl⟩:=List.mem_map.1 hp
            have:=h.wgh c hc; simp [wghP,this.1,this.2]
    · have h0b:(errF [] (r.bs.map balP) == 0)=false:=by simpa using h0
      rw [h0b,cond_false]
      refine⟨fun h=>absurd h h0,fun h=>absurd ?_ h0⟩
      refine hb.2 ⟨fun p hp=>⟨?_,by simp⟩,h.balN⟩
      obtain ⟨b,hb',rfl⟩:=List.mem_map.1 hp
      exact h.bal b hb'

def canF (b:Bal) (mass shift:Int):Bool:=validF b && (withinF mass 0 b.cap && withinF shift (-1000000) 1000000)
def showsR (b:Bal) (mass shift shown:Int):Bool:=canF b mass shift && (withinF shown 0 10000000 && withinF (mass - shown - shift) (-b.half) b.half)
def showingF (b:Bal) (mass shift:Int):(Int × Int) × Int :=
  bif canF b mass shift then (bif decide (min 10000000 (mass - shift+b.half) < max 0 (mass - shift - b.half)) then ((0,0),3) else ((max 0 (mass - shift - b.half),min 10000000 (mass - shift+b.half)),0)) else ((0,0),1)

def thgLt (a b:Thg):Bool:=decide (a.lot < b.lot) || (a.lot == b.lot && (decide (a.bale < b.bale) || (a.bale == b.bale && (decide (a.smp < b.smp) || (a.smp == b.smp && decide (a.st < b.st))))))
def momLt (a b:Mom):Bool:=decide (a.bal < b.bal) || (a.bal == b.bal && decide (a.tick < b.tick))

theorem thgLt_ok:LtOK thgLt where
  irr x:=by simp [thgLt]
  tr x y z h1 h2:=by simp [thgLt] at *; omega
  tot x y h:=by
    by_cases h1:thgLt x y=true
    · exact .inl h1
    · refine .inr ?_
      have h1:thgLt x y=false:=by simpa using h1
      have h2:¬ (x.lot=y.lot∧x.bale=y.bale∧x.smp=y.smp∧x.st=y.st):=fun ⟨a,b,c,d⟩=>h (by cases x; cases y; simp_all)
      simp [thgLt] at *; omega

theorem momLt_ok:LtOK momLt where
  irr x:=by simp [momLt]
  tr x y z h1 h2:=by simp [momLt] at *; omega
  tot x y h:=by
    by_cases h1:momLt x y=true
    · exact .inl h1
    · refine .inr ?_
      have h1:momLt x y=false:=by simpa using h1
      have h2:¬ (x.bal=y.bal∧x.tick=y.tick):=fun ⟨a,b⟩=>h (by cases x; cases y; simp_all)
      simp [momLt] at *; omega

def objsF (r:Rd):List Thg:=distS thgLt (r.ws.map Wgh.o)
def momsF (r:Rd) (more:List Mom):List Mom:=distS momLt (r.ws.map wMom ++ (r.cs.map cMom ++ more))

theorem objsF_mem {r:Rd} {o:Thg}:o ∈ objsF r ↔ ∃ w ∈ r.ws,w.o=o:=by unfold objsF; rw [distS_mem thgLt_ok,List.mem_map]
theorem momsF_mem {r:Rd} {more:List Mom} {m:Mom}:m ∈ momsF r more ↔ (∃ w ∈ r.ws,wMom w=m) ∨ (∃ c ∈ r.cs,cMom c=m) ∨ m ∈ more:=by
  unfold momsF; rw [distS_mem momLt_ok,List.mem_append,List.mem_append,List.mem_map,List.mem_map]
theorem objsF_len (r:Rd):(objsF r).length≤r.ws.length:=by have:=distS_len thgLt_ok (r.ws.map Wgh.o); simpa [objsF] using this
theorem momsF_len (r:Rd) (more:List Mom):(momsF r more).length≤r.ws.length+r.cs.length+more.length:=by
  have:=distS_len momLt_ok (r.ws.map wMom ++ (r.cs.map cMom ++ more)); simp [momsF] at *; omega

structure Sid where
  lo:Int
  hi:Int
  loI:Int
  hiI:Int
  some:Bool
  deriving DecidableEq

def sideStep (m:Mom) (s:Sid) (n:Ntc):Sid :=
  bif (n.bal == m.bal) && withinF m.tick n.wlo n.whi then
    { lo:=bif !s.some || decide (s.lo < n.slo) then n.slo else s.lo
      loI:=bif !s.some || decide (s.lo < n.slo) then n.id else s.loI
      hi:=bif !s.some || decide (n.shi < s.hi) then n.shi else s.hi
      hiI:=bif !s.some || decide (n.shi < s.hi) then n.id else s.hiI
      some:=true }
  else s

def sideF (r:Rd) (m:Mom):Sid:=(sortK Ntc.id r.ns).foldl (sideStep m) ⟨(findD r.bs m.bal).lo,(findD r.bs m.bal).hi,0,0,false⟩

def capStep (bs:List Bal) (o:Thg) (n:Int) (w:Wgh):Int:=bif w.o == o then min n (findD bs w.bal).cap else n
def capF (r:Rd) (o:Thg):Int:=r.ws.foldl (capStep r.bs o) 10000000

def plF {α:Type} [DecidableEq α] (l:List α) (x:α):Int:=if x ∈ l then ((l.idxOf x:Nat):Int) else -1

def boxesR (r:Rd) (os:List Thg) (ms:List Mom):List (Int × Int):=os.map (fun o=>(0,capF r o)) ++ ms.map (fun _=>(-1000000,1000000))

def wghLs (bs:List Bal) (os:List Thg) (ms:List Mom) (w:Wgh):List Lnk :=
  [⟨os.length+plF ms (wMom w),plF os w.o,w.shown+(findD bs w.bal).half,w.id⟩,⟨plF os w.o,os.length+plF ms (wMom w),(findD bs w.bal).half - w.shown,w.id⟩]
def chkLs (bs:List Bal) (os:List Thg) (ms:List Mom) (c:Chk):List Lnk :=
  [⟨-1,os.length+plF ms (cMom c),c.mass - c.shown+(findD bs c.bal).half,c.id⟩,⟨os.length+plF ms (cMom c),-1,c.shown+(findD bs c.bal).half - c.mass,c.id⟩]
def momLs (r:Rd) (os:List Thg) (ms:List Mom) (m:Mom):List Lnk :=
  [⟨-1,os.length+plF ms m,(sideF r m).hi,(sideF r m).hiI⟩,⟨os.length+plF ms m,-1,-(sideF r m).lo,(sideF r m).loI⟩]
def drfLs (bs:List Bal) (k:Nat) (i:Nat):List Mom → List Lnk
  | a :: b :: r=>(bif a.bal == b.bal then
      [⟨k+i,k+i+1,min ((findD bs a.bal).dr * (b.tick - a.tick)) 2000000,0⟩,⟨k+i+1,k+i,min ((findD bs a.bal).dr * (b.tick - a.tick)) 2000000,0⟩] else []) ++ drfLs bs k (i+1) (b :: r)
  | _=>[]
def cvrLs (os:List Thg) (heavy light:Int) (o:Thg):List Lnk :=
  bif o.st == light && os.contains { o with st:=heavy } then [⟨plF os { o with st:=heavy },plF os o,0,0⟩] else []

def linksR (r:Rd) (os:List Thg) (ms:List Mom):List Lnk :=
  (sortK Wgh.id r.ws).flatMap (wghLs r.bs os ms) ++ ((sortK Chk.id r.cs).flatMap (chkLs r.bs os ms) ++ (ms.flatMap (momLs r os ms) ++ (drfLs r.bs os.length 0 ms ++ (os.flatMap (cvrLs os 1 2) ++ os.flatMap (cvrLs os 3 4)))))

def boxR (r:Rd) (more:List Mom):List (Int × Int):=boxesR r (objsF r) (momsF r more)
def lnkR (r:Rd) (more:List Mom):List Lnk:=linksR r (objsF r) (momsF r more)

end Proofs
end Go

/-
  Plain lemmas,part 22: the system of valid readings is a checked system. Conditions: none; plain lemmas.
-/
namespace Go
namespace Proofs

theorem plF_mem {α:Type} [DecidableEq α] {l:List α} {x:α} (h:x ∈ l):plF l x=(l.idxOf x:Nat)∧l.idxOf x < l.length:=by
  unfold plF
  rw [if_pos h]
  exact⟨rfl,List.idxOf_lt_length_iff.2 h⟩

theorem plF_get {α:Type} [DecidableEq α] {l:List α} {x:α} {i:Nat} (h:plF l x=i):l[i]? = some x:=by
  by_cases hm:x ∈ l
  · obtain ⟨h1,h2⟩:=plF_mem hm
    have:i=l.idxOf x:=by omega
    subst this
    rw [List.getElem?_eq_getElem h2,List.getElem_idxOf]
  · unfold plF at h; rw [if_neg hm] at h; omega

theorem plF_at {α:Type} [DecidableEq α] {l:List α} (hd:l.Nodup) {i:Nat} {x:α} (h:l[i]? = some x):plF l x=i:=by
  obtain ⟨hi,rfl⟩:=List.getElem?_eq_some_iff.1 h
  have hm:l[i] ∈ l:=List.getElem_mem hi
  obtain ⟨h1,h2⟩:=plF_mem hm
  have:=plF_get h1
  obtain ⟨h3,h4⟩:=List.getElem?_eq_some_iff.1 this
  have hp:=List.pairwise_iff_getElem.1 (show l.Pairwise (· ≠ ·) from hd)
  rcases Nat.lt_trichotomy (l.idxOf l[i]) i with hlt | he | hlt
  · exact absurd h4 (hp _ _ h3 hi hlt)
  · omega
  · exact absurd h4.symm (hp _ _ hi h3 hlt)

theorem plF_inj {α:Type} [DecidableEq α] {l:List α} {x y:α} (hx:x ∈ l) (h:plF l x=plF l y):x=y:=by
  obtain ⟨h1,_⟩:=plF_mem hx
  have e1:=plF_get h1
  rw [h1] at h
  have e2:=plF_get h.symm
  rw [e1] at e2
  exact Option.some.inj e2

theorem findB_some {bs:List Bal} {id:Int} (h:hasB bs id=true):∃ b ∈ bs,b.id=id∧findB bs id=some b∧findD bs id=b:=by
  unfold hasB at h
  obtain ⟨b,hb⟩:=Option.isSome_iff_exists.1 h
  refine⟨b,List.mem_of_find?_eq_some hb, ?_,hb,by unfold findD; rw [hb]; rfl⟩
  have:=List.find?_some hb
  simpa using this

theorem valid_bd {b:Bal} (h:validF b=true):(1≤b.id∧b.id≤1099511627776)∧(0≤b.half∧b.half≤1000)∧(-1000000≤b.lo∧b.lo≤b.hi∧b.hi≤1000000)∧(0≤b.dr∧b.dr≤1000)∧(1≤b.cap∧b.cap≤10000000):=by
  simp [validF,withinF,insideF] at h; omega

theorem RdOK.findD {r:Rd} (h:RdOK r) {id:Int} (hh:hasB r.bs id=true):validF (findD r.bs id)=true:=by
  obtain ⟨b,hb,_,_,e⟩:=findB_some hh
  rw [e]; exact h.bal b hb

theorem RdOK.w {r:Rd} (h:RdOK r) {w:Wgh} (hw:w ∈ r.ws):hasB r.bs w.bal=true∧(1≤w.id∧w.id≤1099511627776)∧(0≤w.tick∧w.tick≤1000000)∧thgF w.o=true∧(0≤w.shown∧w.shown≤10000000):=by
  obtain ⟨h1,h2⟩:=h.wgh w hw
  simp [idOK,wghF,withinF] at h1 h2
  exact⟨h2.1,h1,h2.2.1,h2.2.2.1,h2.2.2.2⟩

theorem RdOK.c {r:Rd} (h:RdOK r) {c:Chk} (hc:c ∈ r.cs):hasB r.bs c.bal=true∧(1≤c.id∧c.id≤1099511627776)∧(0≤c.tick∧c.tick≤1000000)∧(0≤c.mass∧c.mass≤(Proofs.findD r.bs c.bal).cap)∧(0≤c.shown∧c.shown≤10000000):=by
  obtain ⟨h1,h2⟩:=h.chk c hc
  simp [idOK,chkF,withinF] at h1 h2
  exact⟨h2.1,h1,h2.2.1,h2.2.2.1,h2.2.2.2⟩

theorem RdOK.n {r:Rd} (h:RdOK r) {n:Ntc} (hn:n ∈ r.ns):hasB r.bs n.bal=true∧(1≤n.id∧n.id≤1099511627776)∧(0≤n.wlo∧n.wlo≤n.whi∧n.whi≤1000000)∧(-1000000≤n.slo∧n.slo≤n.shi∧n.shi≤1000000):=by
  obtain ⟨h1,h2⟩:=h.ntc n hn
  simp [idOK,ntcF,withinF,insideF] at h1 h2
  obtain ⟨h2,h3,h4⟩:=h2
  exact⟨h2,h1,by omega,by omega⟩

def momOK (r:Rd) (m:Mom):Bool:=hasB r.bs m.bal && withinF m.tick 0 1000000

theorem RdOK.mom {r:Rd} (h:RdOK r) {more:List Mom} (hm:∀ m ∈ more,momOK r m=true) {m:Mom} (hmm:m ∈ momsF r more):momOK r m=true:=by
  rcases momsF_mem.1 hmm with ⟨w,hw,rfl⟩ | ⟨c,hc,rfl⟩ | hmm
  · obtain ⟨h1,_,h2,_⟩:=h.w hw
    simp [momOK,wMom,withinF,h1]
    exact⟨decide_eq_true h2.1,decide_eq_true h2.2⟩
  · obtain ⟨h1,_,h2,_⟩:=h.c hc
    simp [momOK,cMom,withinF,h1]
    exact⟨decide_eq_true h2.1,decide_eq_true h2.2⟩
  · exact hm m hmm

theorem cap_bd {bs:List Bal} {o:Thg}:∀ (ws:List Wgh) {n:Int},(∀ w ∈ ws,1≤(findD bs w.bal).cap) → 1≤n∧n≤10000000 → 1≤ws.foldl (capStep bs o) n∧ws.foldl (capStep bs o) n≤10000000
  | [],n,_,h=>h
  | w :: r,n,hw,h=>by
    refine cap_bd r (fun w' h'=>hw w' (by simp [h'])) ?_
    have:=hw w (by simp)
    unfold capStep
    cases w.o == o with
    | true=>simp only [cond_true]; omega
    | false=>exact h

theorem side_bd {r:Rd} (h:RdOK r) (m:Mom) (hm:hasB r.bs m.bal=true):(-1000000≤(sideF r m).lo∧(sideF r m).lo≤1000000)∧(-1000000≤(sideF r m).hi∧(sideF r m).hi≤1000000)∧(0≤(sideF r m).loI∧(sideF r m).loI≤1099511627776)∧(0≤(sideF r m).hiI∧(sideF r m).hiI≤1099511627776):=by
  unfold sideF
  have hb:=valid_bd (h.findD hm)
  have hns:∀ n ∈ sortK Ntc.id r.ns,n ∈ r.ns:=fun n hn=>(sortK_perm Ntc.id r.ns).mem_iff.1 hn
  generalize sortK Ntc.id r.ns=ns at hns
  have h0:(-1000000≤(findD r.bs m.bal).lo∧(findD r.bs m.bal).lo≤1000000)∧(-1000000≤(findD r.bs m.bal).hi∧(findD r.bs m.bal).hi≤1000000)∧(0≤(0:Int)∧(0:Int)≤1099511627776)∧(0≤(0:Int)∧(0:Int)≤1099511627776):=by omega
  have gen:∀ (ns:List Ntc) (s:Sid),(∀ n ∈ ns,n ∈ r.ns) → ((-1000000≤s.lo∧s.lo≤1000000)∧(-1000000≤s.hi∧s.hi≤1000000)∧(0≤s.loI∧s.loI≤1099511627776)∧(0≤s.hiI∧s.hiI≤1099511627776)) →
      ((-1000000≤(ns.foldl (sideStep m) s).lo∧(ns.foldl (sideStep m) s).lo≤1000000)∧(-1000000≤(ns.foldl (sideStep m) s).hi∧(ns.foldl (sideStep m) s).hi≤1000000)∧(0≤(ns.foldl (sideStep m) s).loI∧(ns.foldl (sideStep m) s).loI≤1099511627776)∧(0≤(ns.foldl (sideStep m) s).hiI∧(ns.foldl (sideStep m) s).hiI≤1099511627776)):=by
    intro ns
    induction ns with
    | nil=>intro s _ hs; exact hs
    | cons n q ih =>
      intro s hq hs
      refine ih _ (fun x hx=>hq x (by simp [hx])) ?_
      have hn:=h.n (hq n (by simp))
      unfold sideStep
      cases (n.bal == m.bal) && withinF m.tick n.wlo n.whi with
      | false=>exact hs
      | true =>
        simp only [cond_true]
        cases !s.some || decide (s.lo < n.slo) <;> cases !s.some || decide (n.shi < s.hi) <;> simp only [cond_true,cond_false] <;> omega
  exact gen ns _ hns h0

theorem drfLs_mem {bs:List Bal} {k:Nat} {l:Lnk}:∀ {ms:List Mom} {i:Nat},l ∈ drfLs bs k i ms → ∃ j a b,ms[j]? = some a∧ms[j+1]? = some b∧a.bal=b.bal ∧
    (l=⟨k+((i+j:Nat):Int),k+((i+j:Nat):Int)+1,min ((findD bs a.bal).dr * (b.tick - a.tick)) 2000000,0⟩ ∨ l=⟨k+((i+j:Nat):Int)+1,k+((i+j:Nat):Int),min ((findD bs a.bal).dr * (b.tick - a.tick)) 2000000,0⟩)
  | [],_,h=>by simp [drfLs] at h
  | [_],_,h=>by simp [drfLs] at h
  | a :: b :: r,i,h=>by
    unfold drfLs at h
    rcases List.mem_append.1 h with h | h
    · cases hc:a.bal == b.bal with
      | false=>rw [hc] at h; cases h
      | true =>
        rw [hc] at h
        simp only [cond_true,List.mem_cons,List.not_mem_nil,or_false] at h
        exact⟨0,a,b,rfl,rfl,by simpa using hc,by simpa using h⟩
    · obtain ⟨j,x,y,h1,h2,h3,h4⟩:=drfLs_mem h
      refine⟨j+1,x,y,by simpa using h1,by simpa using h2,h3, ?_⟩
      rw [show i+(j+1)=i+1+j by omega]
      exact h4

theorem drfLs_len (bs:List Bal) (k:Nat):∀ (ms:List Mom) (i:Nat),(drfLs bs k i ms).length≤2 * ms.length
  | [],_=>by simp [drfLs]
  | [_],_=>by simp [drfLs]
  | a :: b :: r,i=>by
    have:=drfLs_len bs k (b :: r) (i+1)
    unfold drfLs
    rw [List.length_append]
    cases a.bal == b.bal <;> simp at * <;> omega

theorem flat2_len {α:Type} {f:α → List Lnk} (h:∀ x,(f x).length=2):∀ l:List α,(l.flatMap f).length=2 * l.length
  | []=>rfl
  | x :: r=>by rw [List.flatMap_cons,List.length_append,h,flat2_len h r,List.length_cons]; omega

theorem flat1_len {α:Type} {f:α → List Lnk} (h:∀ x,(f x).length≤1):∀ l:List α,(l.flatMap f).length≤l.length
  | []=>Nat.le_refl _
  | x :: r=>by have:=flat1_len h r; have:=h x; rw [List.flatMap_cons,List.length_append,List.length_cons]; omega

theorem cvr_len (os:List Thg) (a b:Int) (o:Thg):(cvrLs os a b o).length≤1:=by
  unfold cvrLs; cases o.st == b && os.contains { o with st:=a } <;> simp

theorem boxR_len (r:Rd) (more:List Mom):(boxR r more).length=(objsF r).length+(momsF r more).length:=by simp [boxR,boxesR]

theorem sortK_len {α:Type} (key:α → Int) (l:List α):(sortK key l).length=l.length:=(sortK_perm key l).length_eq

theorem lnkR_len (r:Rd) (more:List Mom):(lnkR r more).length≤2 * r.ws.length+2 * r.cs.length+4 * (momsF r more).length+2 * (objsF r).length:=by
  unfold lnkR linksR
  simp only [List.length_append]
  have h1:=flat2_len (f:=wghLs r.bs (objsF r) (momsF r more)) (fun _=>rfl) (sortK Wgh.id r.ws)
  have h2:=flat2_len (f:=chkLs r.bs (objsF r) (momsF r more)) (fun _=>rfl) (sortK Chk.id r.cs)
  have h3:=flat2_len (f:=momLs r (objsF r) (momsF r more)) (fun _=>rfl) (momsF r more)
  have h4:=drfLs_len r.bs (objsF r).length (momsF r more) 0
  have h5:=flat1_len (cvr_len (objsF r) 1 2) (objsF r)
  have h6:=flat1_len (cvr_len (objsF r) 3 4) (objsF r)
  rw [sortK_len] at h1 h2
  omega

end Proofs
end Go

/-
  Plain lemmas,part 23: the system of valid readings is a proper one. Conditions: none; plain lemmas.
-/
namespace Go
namespace Proofs

theorem inc_get {α:Type} {lt:α → α → Bool} {l:List α} (h:Inc lt l) {i j:Nat} {a b:α} (hij:i < j) (ha:l[i]? = some a) (hb:l[j]? = some b):lt a b=true:=by
  obtain ⟨h1,rfl⟩:=List.getElem?_eq_some_iff.1 ha
  obtain ⟨h2,rfl⟩:=List.getElem?_eq_some_iff.1 hb
  exact List.pairwise_iff_getElem.1 h i j h1 h2 hij

theorem mom_next {r:Rd} {more:List Mom} {j:Nat} {a b:Mom} (ha:(momsF r more)[j]? = some a) (hb:(momsF r more)[j+1]? = some b) (h:a.bal=b.bal):a.tick < b.tick:=by
  have:=inc_get (distS_inc momLt_ok _) (Nat.lt_succ_self j) ha hb
  simp [momLt] at this; omega

structure DrfOK (bs:List Bal) (a b:Mom):Prop where
  nn:0≤(findD bs a.bal).dr * (b.tick - a.tick)
  le:(findD bs a.bal).dr * (b.tick - a.tick)≤1000000000

theorem drf_ok {r:Rd} (h:RdOK r) {more:List Mom} (hm:∀ m ∈ more,momOK r m=true) {j:Nat} {a b:Mom} (ha:(momsF r more)[j]? = some a) (hb:(momsF r more)[j+1]? = some b) (hab:a.bal=b.bal):DrfOK r.bs a b:=by
  have h1:=h.mom hm (List.mem_of_getElem? ha)
  have h2:=h.mom hm (List.mem_of_getElem? hb)
  have h3:=mom_next ha hb hab
  simp [momOK,withinF] at h1 h2
  have hv:=valid_bd (h.findD h1.1)
  obtain ⟨_,_,_,hd,_⟩:=hv
  obtain ⟨_,h1⟩:=h1
  obtain ⟨_,h2⟩:=h2
  refine⟨Int.mul_nonneg hd.1 (by omega), ?_⟩
  have:=Int.mul_le_mul hd.2 (show b.tick - a.tick≤1000000 by omega) (by omega) (by omega:(0:Int)≤1000)
  omega

theorem proper_of {f t m i:Int} {n:Nat} (h1:f ≠ t) (h2:-1≤f∧f < n) (h3:-1≤t∧t < n) (h4:-33554432≤m∧m≤33554432) (h5:0≤i∧i≤1099511627776):properF ⟨f,t,m,i⟩ n=true:=by
  simp only [properF,withinF,Bool.and_eq_true,bne_iff_ne,ne_eq,decide_eq_true_eq]
  refine⟨h1,⟨h2.1,by omega⟩,⟨h3.1,by omega⟩,h4,h5⟩

theorem lnkR_proper {r:Rd} (h:RdOK r) {more:List Mom} (hm:∀ m ∈ more,momOK r m=true):∀ l ∈ lnkR r more,properF l (boxR r more).length=true:=by
  intro l hl
  rw [boxR_len]
  have hwO:∀ w ∈ r.ws,w.o ∈ objsF r:=fun w hw=>objsF_mem.2 ⟨w,hw,rfl⟩
  have hwM:∀ w ∈ r.ws,wMom w ∈ momsF r more:=fun w hw=>momsF_mem.2 (.inl ⟨w,hw,rfl⟩)
  have hcM:∀ c ∈ r.cs,cMom c ∈ momsF r more:=fun c hc=>momsF_mem.2 (.inr (.inl ⟨c,hc,rfl⟩))
  have hmo:=fun m (hmm:m ∈ momsF r more)=>h.mom hm hmm
  have hdr:=fun (j:Nat) (a b:Mom) (ha:(momsF r more)[j]? = some a) (hb:(momsF r more)[j+1]? = some b) hab=>drf_ok h hm ha hb hab
  unfold lnkR linksR at hl
  generalize objsF r=os at *
  generalize momsF r more=ms at *
  simp only [List.mem_append,List.mem_flatMap] at hl
  rcases hl with ⟨w,hw,hl⟩ | ⟨c,hc,hl⟩ | ⟨m,hmm,hl⟩ | hl | ⟨o,ho,hl⟩ | ⟨o,ho,hl⟩
  · have hw:=(sortK_perm Wgh.id r.ws).mem_iff.1 hw
    obtain ⟨hb,hid,_,_,hsh⟩:=h.w hw
    obtain ⟨_,hv,_⟩:=valid_bd (h.findD hb)
    obtain ⟨e1,l1⟩:=plF_mem (hwO w hw)
    obtain ⟨e2,l2⟩:=plF_mem (hwM w hw)
    simp only [wghLs,List.mem_cons,List.not_mem_nil,or_false] at hl
    rcases hl with rfl | rfl
    · exact proper_of (by omega) (by omega) (by omega) (by omega) (by omega)
    · exact proper_of (by omega) (by omega) (by omega) (by omega) (by omega)
  · have hc:=(sortK_perm Chk.id r.cs).mem_iff.1 hc
    obtain ⟨hb,hid,_,hms,hsh⟩:=h.c hc
    obtain ⟨_,hv,_,_,hcap⟩:=valid_bd (h.findD hb)
    obtain ⟨e2,l2⟩:=plF_mem (hcM c hc)
    simp only [chkLs,List.mem_cons,List.not_mem_nil,or_false] at hl
    rcases hl with rfl | rfl
    · exact proper_of (by omega) (by omega) (by omega) (by omega) (by omega)
    · exact proper_of (by omega) (by omega) (by omega) (by omega) (by omega)
  · have hb:=hmo m hmm
    simp [momOK] at hb
    obtain ⟨s1,s2,s3,s4⟩:=side_bd h m hb.1
    obtain ⟨e2,l2⟩:=plF_mem hmm
    simp only [momLs,List.mem_cons,List.not_mem_nil,or_false] at hl
    rcases hl with rfl | rfl
    · exact proper_of (by omega) (by omega) (by omega) (by omega) (by omega)
    · exact proper_of (by omega) (by omega) (by omega) (by omega) (by omega)
  · obtain ⟨j,a,b,ha,hb,hab,hl⟩:=drfLs_mem hl
    have hd:=hdr j a b ha hb hab
    obtain ⟨d1,d2⟩:=hd
    have hj:j+1 < ms.length:=(List.getElem?_eq_some_iff.1 hb).1
    generalize (findD r.bs a.bal).dr * (b.tick - a.tick)=d at *
    rcases hl with rfl | rfl
    · exact proper_of (by omega) (by omega) (by omega) (by omega) (by omega)
    · exact proper_of (by omega) (by omega) (by omega) (by omega) (by omega)
  all_goals
    unfold cvrLs at hl
    cases hc:(o.st == _ && os.contains _) with
    | false=>rw [hc] at hl; cases hl
    | true =>
      rw [hc] at hl
      simp only [cond_true,List.mem_cons,List.not_mem_nil,or_false] at hl
      subst hl
      simp only [Bool.and_eq_true,beq_iff_eq,List.contains_iff_mem] at hc
      obtain ⟨e1,l1⟩:=plF_mem ho
      obtain ⟨e2,l2⟩:=plF_mem hc.2
      refine proper_of (fun he=>?_) (by omega) (by omega) (by omega) (by omega)
      have:=congrArg Thg.st (plF_inj hc.2 he)
      have h1:=hc.1
      simp only at this
      omega

theorem boxR_ok {r:Rd} (h:RdOK r) (more:List Mom):∀ b ∈ boxR r more,b.1≤b.2∧-16777216≤b.1∧b.2≤16777216:=by
  intro b hb
  unfold boxR boxesR at hb
  rcases List.mem_append.1 hb with hb | hb
  · obtain ⟨o,ho,rfl⟩:=List.mem_map.1 hb
    have:=cap_bd (bs:=r.bs) (o:=o) r.ws (n:=10000000) (fun w hw=>by have:=valid_bd (h.findD (h.w hw).1); omega) (by omega)
    unfold capF
    simp only
    omega
  · obtain ⟨o,ho,rfl⟩:=List.mem_map.1 hb
    simp only
    omega

theorem rdR_len {r:Rd} (h:RdOK r) {more:List Mom} (hm:more.length≤2):(boxR r more).length≤240∧(lnkR r more).length≤1200:=by
  have h1:=objsF_len r
  have h2:=momsF_len r more
  have h3:=lnkR_len r more
  have:=h.nr
  rw [boxR_len]
  omega

end Proofs
end Go

/-
  Plain lemmas,part 24: a moment's correction,as the notices say it in whatever order. Conditions: none; definitions and plain lemmas.
-/
namespace Go
namespace Proofs

def BestN (l:List Ntc) (val:Ntc → Int) (v i:Int):Prop:=∃ n ∈ l,val n=v∧n.id=i∧∀ k ∈ l,val k < v ∨ (val k=v∧i≤k.id)

theorem BestN.unique {l l':List Ntc} {val:Ntc → Int} {v i v' i':Int} (hm:∀ n,n ∈ l ↔ n ∈ l') (h:BestN l val v i) (h':BestN l' val v' i'):v=v'∧i=i':=by
  obtain ⟨n,hn,h1,h2,h3⟩:=h
  obtain ⟨n',hn',h1',h2',h3'⟩:=h'
  have a:=h3 n' ((hm n').2 hn')
  have b:=h3' n ((hm n).1 hn)
  omega

theorem BestN.one {val:Ntc → Int} (n:Ntc):BestN [n] val (val n) n.id:=⟨n,by simp,rfl,rfl,fun k hk=>by simp at hk; subst hk; exact .inr ⟨rfl,Int.le_refl _⟩⟩

theorem BestN.up {l:List Ntc} {val:Ntc → Int} {v i:Int} {n:Ntc} (h:BestN l val v i) (hn:v < val n ∨ (val n=v∧n.id≤i)):BestN (l ++ [n]) val (val n) n.id:=by
  obtain ⟨m,hm,h1,h2,h3⟩:=h
  refine⟨n,by simp,rfl,rfl,fun k hk=>?_⟩
  rcases List.mem_append.1 hk with hk | hk
  · have:=h3 k hk; omega
  · simp at hk; subst hk; omega

theorem BestN.stay {l:List Ntc} {val:Ntc → Int} {v i:Int} {n:Ntc} (h:BestN l val v i) (hn:val n < v ∨ (val n=v∧i≤n.id)):BestN (l ++ [n]) val v i:=by
  obtain ⟨m,hm,h1,h2,h3⟩:=h
  refine⟨m,by simp [hm],h1,h2,fun k hk=>?_⟩
  rcases List.mem_append.1 hk with hk | hk
  · exact h3 k hk
  · simp at hk; subst hk; exact hn

def hitF (m:Mom) (n:Ntc):Bool:=(n.bal == m.bal) && withinF m.tick n.wlo n.whi

structure SidOK (l:List Ntc) (lo0 hi0:Int) (s:Sid):Prop where
  none:l=[] → s=⟨lo0,hi0,0,0,false⟩
  some:l ≠ [] → s.some=true∧BestN l Ntc.slo s.lo s.loI∧BestN l (fun n=>-n.shi) (-s.hi) s.hiI

def sideStepR (m:Mom) (s:Sid) (n:Ntc):Sid :=
  bif hitF m n then
    { lo:=bif !s.some || (decide (s.lo < n.slo) || (n.slo == s.lo && decide (n.id < s.loI))) then n.slo else s.lo
      loI:=bif !s.some || (decide (s.lo < n.slo) || (n.slo == s.lo && decide (n.id < s.loI))) then n.id else s.loI
      hi:=bif !s.some || (decide (n.shi < s.hi) || (n.shi == s.hi && decide (n.id < s.hiI))) then n.shi else s.hi
      hiI:=bif !s.some || (decide (n.shi < s.hi) || (n.shi == s.hi && decide (n.id < s.hiI))) then n.id else s.hiI
      some:=true }
  else s

theorem sidR_step {m:Mom} {l:List Ntc} {lo0 hi0:Int} {s:Sid} {n:Ntc} (h:SidOK (l.filter (hitF m)) lo0 hi0 s):SidOK ((l ++ [n]).filter (hitF m)) lo0 hi0 (sideStepR m s n):=by
  rw [List.filter_append]
  unfold sideStepR
  cases hn:hitF m n with
  | false =>
    simp only [List.filter_cons,hn,Bool.false_eq_true,if_false,List.filter_nil,List.append_nil,cond_false]
    exact h
  | true =>
    simp only [List.filter_cons,hn,if_true,List.filter_nil,cond_true]
    refine⟨fun h0=>by simp at h0,fun _=>⟨rfl, ?_⟩⟩
    by_cases hl:l.filter (hitF m)=[]
    · have:=h.none hl
      subst this
      rw [hl]
      exact⟨BestN.one n,BestN.one (val:=fun n=>-n.shi) n⟩
    · obtain ⟨h1,h2,h3⟩:=h.some hl
      rw [h1]
      simp only [Bool.not_true,Bool.false_or]
      refine⟨?_, ?_⟩
      · cases hc:(decide (s.lo < n.slo) || (n.slo == s.lo && decide (n.id < s.loI))) with
        | true=>simp only [cond_true]; exact h2.up (by simp at hc; omega)
        | false=>simp only [cond_false]; exact h2.stay (by simp at hc; omega)
      · cases hc:(decide (n.shi < s.hi) || (n.shi == s.hi && decide (n.id < s.hiI))) with
        | true=>simp only [cond_true]; exact h3.up (n:=n) (by simp at hc; omega)
        | false=>simp only [cond_false]; exact h3.stay (n:=n) (by simp at hc; omega)

theorem sidP_step {m:Mom} {l:List Ntc} {lo0 hi0:Int} {s:Sid} {n:Ntc} (h:SidOK (l.filter (hitF m)) lo0 hi0 s) (hid:∀ k ∈ l,k.id≤n.id):SidOK ((l ++ [n]).filter (hitF m)) lo0 hi0 (sideStep m s n):=by
  rw [List.filter_append]
  have hst:sideStep m s n=bif hitF m n then
    { lo:=bif !s.some || decide (s.lo < n.slo) then n.slo else s.lo
      loI:=bif !s.some || decide (s.lo < n.slo) then n.id else s.loI
      hi:=bif !s.some || decide (n.shi < s.hi) then n.shi else s.hi
      hiI:=bif !s.some || decide (n.shi < s.hi) then n.id else s.hiI
      some:=true } else s:=rfl
  rw [hst]
  cases hn:hitF m n with
  | false =>
    simp only [List.filter_cons,hn,Bool.false_eq_true,if_false,List.filter_nil,List.append_nil,cond_false]
    exact h
  | true =>
    simp only [List.filter_cons,hn,if_true,List.filter_nil,cond_true]
    refine⟨fun h0=>by simp at h0,fun _=>⟨rfl, ?_⟩⟩
    by_cases hl:l.filter (hitF m)=[]
    · have:=h.none hl
      subst this
      rw [hl]
      exact⟨BestN.one n,BestN.one (val:=fun n=>-n.shi) n⟩
    · obtain ⟨h1,h2,h3⟩:=h.some hl
      have e2:s.loI≤n.id:=by obtain ⟨k,hk,_,e,_⟩:=h2; rw [← e]; exact hid k (List.mem_filter.1 hk).1
      have e3:s.hiI≤n.id:=by obtain ⟨k,hk,_,e,_⟩:=h3; rw [← e]; exact hid k (List.mem_filter.1 hk).1
      rw [h1]
      simp only [Bool.not_true,Bool.false_or]
      refine⟨?_, ?_⟩
      · cases hc:decide (s.lo < n.slo) with
        | true=>simp only [cond_true]; exact h2.up (by simp at hc; omega)
        | false=>simp only [cond_false]; exact h2.stay (by simp at hc; omega)
      · cases hc:decide (n.shi < s.hi) with
        | true=>simp only [cond_true]; exact h3.up (n:=n) (by simp at hc; omega)
        | false=>simp only [cond_false]; exact h3.stay (n:=n) (by simp at hc; omega)

theorem sidR_all (m:Mom) (lo0 hi0:Int):∀ (q l:List Ntc) (s:Sid),SidOK (l.filter (hitF m)) lo0 hi0 s → SidOK ((l ++ q).filter (hitF m)) lo0 hi0 (q.foldl (sideStepR m) s)
  | [],l,s,h=>by simpa using h
  | n :: q,l,s,h=>by
    have:=sidR_all m lo0 hi0 q (l ++ [n]) _ (sidR_step h)
    simpa using this

theorem sidP_all (m:Mom) (lo0 hi0:Int):∀ (q l:List Ntc) (s:Sid),(l ++ q).Pairwise (fun a b=>a.id≤b.id) → SidOK (l.filter (hitF m)) lo0 hi0 s → SidOK ((l ++ q).filter (hitF m)) lo0 hi0 (q.foldl (sideStep m) s)
  | [],l,s,_,h=>by simpa using h
  | n :: q,l,s,hp,h=>by
    have hid:∀ k ∈ l,k.id≤n.id:=fun k hk=>(List.pairwise_append.1 hp).2.2 k hk n (by simp)
    have:=sidP_all m lo0 hi0 q (l ++ [n]) _ (by simpa using hp) (sidP_step h hid)
    simpa using this

theorem SidOK.unique {l l':List Ntc} {lo0 hi0:Int} {s s':Sid} (hm:∀ n,n ∈ l ↔ n ∈ l') (h:SidOK l lo0 hi0 s) (h':SidOK l' lo0 hi0 s'):s=s':=by
  by_cases hl:l=[]
  · have hl':l'=[]:=by
      subst hl
      exact List.eq_nil_iff_forall_not_mem.2 fun n hn=>by have:=(hm n).2 hn; simp at this
    rw [h.none hl,h'.none hl']
  · have hl':l' ≠ []:=by
      rintro rfl
      exact hl (List.eq_nil_iff_forall_not_mem.2 fun n hn=>by have:=(hm n).1 hn; simp at this)
    obtain ⟨a1,a2,a3⟩:=h.some hl
    obtain ⟨b1,b2,b3⟩:=h'.some hl'
    obtain ⟨c1,c2⟩:=a2.unique hm b2
    obtain ⟨d1,d2⟩:=a3.unique hm b3
    cases s; cases s'
    simp only [Sid.mk.injEq] at *
    exact⟨c1,by omega,c2,d2,a1.trans b1.symm⟩

theorem side_eq (r:Rd) (m:Mom):r.ns.foldl (sideStepR m) ⟨(findD r.bs m.bal).lo,(findD r.bs m.bal).hi,0,0,false⟩=sideF r m:=by
  have h1:=sidR_all m (findD r.bs m.bal).lo (findD r.bs m.bal).hi r.ns [] _ ⟨fun _=>rfl,fun h=>absurd rfl h⟩
  have h2:=sidP_all m (findD r.bs m.bal).lo (findD r.bs m.bal).hi (sortK Ntc.id r.ns) [] _ (by rw [List.nil_append]; exact sortK_le _ _) ⟨fun _=>rfl,fun h=>absurd rfl h⟩
  refine h1.unique (fun n=>?_) h2
  simp only [List.nil_append,List.mem_filter,(sortK_perm Ntc.id r.ns).mem_iff]

end Proofs
end Go

/-
  Plain lemmas,part 25: picking the next greater number again and again sorts. Conditions: none; definitions and plain lemmas.
-/
namespace Go
namespace Proofs

def lastK {α:Type} (key:α → Int) (l:List α):Nat → Int
  | 0=>0
  | k+1=>match (sortK key l)[k]? with
    | some x=>key x
    | none=>0

theorem lastK_succ {α:Type} {key:α → Int} {l:List α} {k:Nat} {x:α} (h:(sortK key l)[k]? = some x):lastK key l (k+1)=key x:=by
  simp only [lastK,h]

theorem lastK_lt {α:Type} {key:α → Int} {l:List α} (hd:(l.map key).Nodup) (hp:∀ x ∈ l,0 < key x) {k j:Nat} {y:α} (hk:k≤l.length) (hy:(sortK key l)[j]? = some y):lastK key l k < key y ↔ k≤j:=by
  have hinc:=sortK_inc hd
  have hym:y ∈ l:=(sortK_perm key l).mem_iff.1 (List.mem_of_getElem? hy)
  cases k with
  | zero=>simp only [lastK]; exact⟨fun _=>Nat.zero_le _,fun _=>hp y hym⟩
  | succ k =>
    have hk':k < (sortK key l).length:=by rw [sortK_len]; omega
    have hx:(sortK key l)[k]? = some (sortK key l)[k]:=List.getElem?_eq_getElem hk'
    rw [lastK_succ hx]
    constructor
    · intro h
      refine Nat.lt_of_not_le fun hle=>?_
      rcases Nat.lt_or_eq_of_le hle with hlt | rfl
      · have:=inc_get hinc hlt hy hx
        simp [idLt] at this; omega
      · rw [hx] at hy
        have:=Option.some.inj hy
        rw [this] at h; omega
    · intro h
      have:=inc_get hinc (show k < j by omega) hx hy
      simpa [idLt] using this

theorem pick_next {α:Type} {key:α → Int} {l:List α} (hd:(l.map key).Nodup) (hp:∀ x ∈ l,0 < key x) {k:Nat} (hk:k < l.length) {x:α} (hx:x ∈ l) (h1:lastK key l k < key x) (h2:∀ y ∈ l,lastK key l k < key y → key x≤key y) :
    (sortK key l)[k]? = some x:=by
  have hk':k < (sortK key l).length:=by rw [sortK_len]; exact hk
  have hy:(sortK key l)[k]? = some (sortK key l)[k]:=List.getElem?_eq_getElem hk'
  have hym:(sortK key l)[k] ∈ l:=(sortK_perm key l).mem_iff.1 (List.getElem_mem hk')
  have h3:=h2 _ hym ((lastK_lt hd hp (Nat.le_of_lt hk) hy).2 (Nat.le_refl _))
  obtain ⟨j,hj⟩:=List.mem_iff_getElem?.1 ((sortK_perm key l).mem_iff.2 hx)
  have h4:=(lastK_lt hd hp (Nat.le_of_lt hk) hj).1 h1
  rcases Nat.lt_or_eq_of_le h4 with hlt | rfl
  · have:=inc_get (sortK_inc hd) hlt hy hj
    simp [idLt] at this; omega
  · exact hj

theorem pick_some {α:Type} {key:α → Int} {l:List α} (hd:(l.map key).Nodup) (hp:∀ x ∈ l,0 < key x) {k:Nat} (hk:k < l.length):∃ x ∈ l,lastK key l k < key x:=by
  have hk':k < (sortK key l).length:=by rw [sortK_len]; exact hk
  exact⟨_,(sortK_perm key l).mem_iff.1 (List.getElem_mem hk'),(lastK_lt hd hp (Nat.le_of_lt hk) (List.getElem?_eq_getElem hk')).2 (Nat.le_refl _)⟩

def Found {α:Type} (key:α → Int) (l:List α) (last:Int) (i:Nat) (best:Int):Prop :=
  (best=-1∧∀ x ∈ l.take i,¬ last < key x) ∨ (∃ (j:Nat) (x:α),best=j∧j < i∧l[j]? = some x∧last < key x∧∀ y ∈ l.take i,last < key y → key x≤key y)

theorem found_zero {α:Type} (key:α → Int) (l:List α) (last:Int):Found key l last 0 (-1):=.inl ⟨rfl,fun x hx=>by simp at hx⟩

theorem take_succ_mem {α:Type} {l:List α} {i:Nat} (h:i < l.length) {x:α}:x ∈ l.take (i+1) ↔ x ∈ l.take i ∨ x=l[i]:=by
  rw [List.take_add_one,List.getElem?_eq_getElem h,List.mem_append]
  show _ ∨ x ∈ [l[i]] ↔ _
  rw [List.mem_singleton]

theorem found_take {α:Type} {key:α → Int} {l:List α} {last:Int} {i:Nat} {best:Int} (h:i < l.length) (hf:Found key l last i best) (h1:last < key l[i]) (h2:best < 0 ∨ ∃ x,l[best.toNat]? = some x∧key l[i] < key x):Found key l last (i+1) i:=by
  refine .inr ⟨i,l[i],rfl,Nat.lt_succ_self i,List.getElem?_eq_getElem h,h1,fun y hy hl=>?_⟩
  rcases (take_succ_mem h).1 hy with hy | rfl
  · rcases hf with ⟨_,hn⟩ | ⟨j,x,rfl,hj,hx,hlx,hmin⟩
    · exact absurd hl (hn y hy)
    · rcases h2 with h2 | ⟨x',hx',hlt⟩
      · omega
      · simp at hx'
        rw [hx] at hx'
        cases hx'
        have:=hmin y hy hl; omega
  · exact Int.le_refl _

theorem found_keep {α:Type} {key:α → Int} {l:List α} {last:Int} {i:Nat} {best:Int} (h:i < l.length) (hf:Found key l last i best) (h1:¬ last < key l[i] ∨ ∃ x,0≤best∧l[best.toNat]? = some x∧¬ key l[i] < key x):Found key l last (i+1) best:=by
  rcases hf with ⟨rfl,hn⟩ | ⟨j,x,rfl,hj,hx,hlx,hmin⟩
  · refine .inl ⟨rfl,fun y hy=>?_⟩
    rcases (take_succ_mem h).1 hy with hy | rfl
    · exact hn y hy
    · rcases h1 with h1 | ⟨_,h0,_⟩
      · exact h1
      · omega
  · refine .inr ⟨j,x,rfl,by omega,hx,hlx,fun y hy hl=>?_⟩
    rcases (take_succ_mem h).1 hy with hy | rfl
    · exact hmin y hy hl
    · rcases h1 with h1 | ⟨x',_,hx',hle⟩
      · exact absurd hl h1
      · simp at hx'
        rw [hx] at hx'
        cases hx'
        omega

theorem found_all {α:Type} {key:α → Int} {l:List α} (hd:(l.map key).Nodup) (hp:∀ x ∈ l,0 < key x) {k:Nat} (hk:k < l.length) {best:Int} (hf:Found key l (lastK key l k) l.length best) :
    ∃ (j:Nat) (x:α),best=j∧l[j]? = some x∧(sortK key l)[k]? = some x:=by
  rcases hf with ⟨_,hn⟩ | ⟨j,x,rfl,_,hx,hlx,hmin⟩
  · obtain ⟨x,hx,hl⟩:=pick_some hd hp hk
    exact absurd hl (hn x (by rw [List.take_length]; exact hx))
  · exact⟨j,x,rfl,hx,pick_next hd hp hk (List.mem_of_getElem? hx) hlx fun y hy=>hmin y (by rw [List.take_length]; exact hy)⟩

end Proofs
end Go

