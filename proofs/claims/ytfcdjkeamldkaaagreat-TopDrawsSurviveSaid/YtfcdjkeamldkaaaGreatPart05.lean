/-
  A part of the proof that a law answers true: lemmas of a symbolic walk, plain functions, or contracts of the functions walked (SxC, SxD, Sx15). Conditions: none.
-/
import Derived.Test.YtfcdjkeamldkaaaGreatPart04
set_option maxRecDepth 100000
set_option linter.unusedVariables false
set_option linter.unusedSimpArgs false
namespace Go
namespace Sx

structure Sound (cx:Cx) (c:Code) (Q:Exit → St → Prop) (s:St):Prop where
  h:∀ (ρ:Asg) (a:Act) (w:World),Sat cx ρ s a w → ∀ (QQ:Exit → Act → World → Prop),
    (∀ ex s' ρ' a' w',Q ex s' → Sat cx ρ' s' a' w' → QQ ex a' w') → c.wpIn (fen cx.rd) 0 cx.P QQ a w


def bindsAny (e:Edge):Bool:=match e.ground with
  | .textOnly _=>false
  | .gcOnly _=>false
  | _=>true

theorem bindsAny_eq (e:Edge):Region.binds .any e=bindsAny e:=by
  unfold Region.binds bindsAny
  cases e.ground <;> rfl

def ancE (A:List (Nat × Nat)) (i:Nat):List Edge → Nat → Option Nat
  | [],m=>some m
  | e :: r,m=>bif bindsAny e then (bif Nat.blt e.on i then (match lookN A e.on with
      | some m'=>ancE A i r (Nat.lor (bit e.on) (Nat.lor m' m))
      | none=>none) else none) else ancE A i r m

def ancsK:List Oper → Nat → List (Nat × Nat) → (List (Nat × Nat) → Prop) → Prop
  | [],_,A,K=>K A
  | o :: r,i,A,K=>match ancE A i o.after.toList 0 with
    | some m=>forceN m fun m=>forceN (i+1) fun j=>ancsK r j ((i,m) :: A) K
    | none=>False

def optIn (d:Option Nat) (l:List Nat):Bool:=match d with
  | some d=>memN d l
  | none=>false

def optEq (d e:Option Nat):Bool:=match d,e with
  | some d,some e=>Nat.beq d e
  | _,_=>false

def conf (x y:LogE):Bool :=
  bif optIn x.d y.rs then true else bif optIn y.d x.rs then true else bif optEq x.d y.d then true else bif anyMem (keys x.wr) y.rd then true else
  bif anyMem (keys x.wr) (keys y.wr) then true else bif anyMem (keys y.wr) x.rd then true else bif anyMem x.news y.nms then true else anyMem y.news x.nms

def chk1 (m:Nat) (y:LogE):List (Nat × LogE) → Bool
  | []=>true
  | (i,x) :: r=>bif conf x y then (bif bitAt m i then (bif anyMem y.news x.nms then false else chk1 m y r) else false) else chk1 m y r

def chkAll (A:List (Nat × Nat)):Nat → List LogE → List (Nat × LogE) → Bool
  | _,[],_=>true
  | i,y :: r,done=>match lookN A i with
    | some m=>bif chk1 m y done then chkAll A (i+1) r ((i,y) :: done) else false
    | none=>false

def allGeN (n:Nat):List Nat → Bool
  | []=>true
  | x :: r=>bif Nat.ble n x then allGeN n r else false

theorem allGeN_ok {n:Nat}:∀ {l:List Nat},allGeN n l=true → ∀ k ∈ l,n≤k
  | [],_,_,h=>by cases h
  | x :: r,h,k,hk=>by
    simp only [allGeN] at h
    cases hb:Nat.ble n x with
    | false=>simp [hb] at h
    | true =>
      simp [hb] at h
      rcases List.mem_cons.1 hk with rfl | hk
      · exact Nat.le_of_ble_eq_true hb
      · exact allGeN_ok h k hk

def newsIn (nx n:Nat):List LogE → Bool
  | []=>true
  | x :: r=>bif allLt n x.news then (bif allGeN nx x.news then newsIn nx n r else false) else false

def forceO2:List (Nat × Bool) → Env → (Env → Prop) → Prop
  | [],e,K=>K e
  | (d,t) :: r,e,K=>forceO2 r e fun e=>K (.put d (.c (.b t)) e)

theorem forceO2_eq {l:List (Nat × Bool)} {e:Env} {K:Env → Prop}:forceO2 l e K=K (ovl l e):=by
  induction l generalizing K with
  | nil=>rfl
  | cons c l ih=>simp [forceO2,ih,ovl]

def drawK (cx:Cx) (B:Tabs) (ops:Array Oper) (Q:St → Prop) (s:St):Prop :=
  ancsK ops.toList 0 [] fun A=>vcAny cx B ops ops.toList s [] [] fun log s' gs =>
    match s' with
    | ⟨e',H',nx'⟩=>bif chkAll A 0 log [] && newsIn s.nx nx' log then forceO2 gs e' fun e'=>Q ⟨e',H',nx'⟩ else False

theorem ovl_get {gs:List (Nat × Bool)} {e:Env} {i:Nat}:(ovl gs e).get i=match lookB gs i with
    | some t=>.c (.b t)
    | none=>e.get i:=by
  induction gs with
  | nil=>rfl
  | cons p r ih =>
    obtain ⟨d,t⟩:=p
    simp only [ovl,lookB]
    rw [get_put]
    cases hb:Nat.beq i d with
    | true=>simp [Nat.eq_of_beq_eq_true hb]
    | false=>rw [if_neg (Nat.ne_of_beq_eq_false hb),ih]; simp

def SVeq (a b:SV):Prop:=a=b ∨ ∃ t,isBool a t∧isBool b t

theorem isBool_rel {ρ:Asg} {sv:SV} {t:Bool} {v:Value} (h:isBool sv t):sv.rel ρ v ↔ v=.bool t:=by
  rcases h with rfl | rfl <;> simp [SV.rel,SC.rel]
theorem isBool_uses {sv:SV} {t:Bool} {ks:List Nat} (h:isBool sv t):sv.uses ks=false:=by
  rcases h with rfl | rfl <;> simp [SV.uses,SC.uses,SC.nms,anyMem]

theorem SVeq.rel {ρ:Asg} {a b:SV} {v:Value} (h:SVeq a b) (hr:a.rel ρ v):b.rel ρ v:=by
  rcases h with rfl | ⟨t,h1,h2⟩
  · exact hr
  · exact (isBool_rel h2).2 ((isBool_rel h1).1 hr)

theorem SVeq.uses {a b:SV} {ks:List Nat} (h:SVeq a b) (hr:b.uses ks=true):a.uses ks=true:=by
  rcases h with rfl | ⟨t,h1,h2⟩
  · exact hr
  · rw [isBool_uses h2] at hr; cases hr

theorem Sat.congr {cx:Cx} {ρ:Asg} {s s':St} {a:Act} {w:World} (h:Sat cx ρ s a w) (he:∀ i,SVeq (s.e.get i) (s'.e.get i)) (hH:∀ k,look s'.H k=look s.H k) (hn:s'.nx=s.nx) (hmk:s'.e.marks=s.e.marks):Sat cx ρ s' a w where
  size:=h.size
  defers:=by rw [hmk]; exact h.defers
  env i:=(he i).rel (h.env i)
  heap :=
    { frm:=h.heap.frm
      reg:=fun k own o hl=>h.heap.reg k own o (by rw [← hH]; exact hl)
      apart:=fun k k' o own' o' hne hl hl'=>h.heap.apart k k' o own' o' hne (by rw [← hH]; exact hl) (by rw [← hH]; exact hl')
      fresh:=fun k o hl=>h.heap.fresh k o (by rw [← hH]; exact hl)
      valid:=fun k own o hl=>h.heap.valid k own o (by rw [← hH]; exact hl) }
  bnd:=⟨fun i k hk=>by rw [hn]; exact h.bnd.env i k ((he i).uses hk),fun k hk=>by rw [hn]; exact h.bnd.mks k (by rw [← hmk]; exact hk),fun k own o hl=>by rw [hn]; exact h.bnd.heap k own o (by rw [← hH]; exact hl)⟩
  base:=h.base
  keep:=h.keep
  n0:=by rw [hn]; exact h.n0

theorem ovl_marks {gs:List (Nat × Bool)} {e:Env}:(ovl gs e).marks=e.marks:=by
  induction gs with
  | nil=>rfl
  | cons p r ih=>obtain ⟨d,t⟩:=p; simpa [ovl,Env.marks] using ih

theorem putO_marks {d:Option Nat} {sv:SV} {e:Env}:(putO d sv e).marks=e.marks:=by cases d <;> rfl

theorem appL_marks:∀ {l:List LogE} {p:Env × Heap},(appL p l).1.marks=p.1.marks
  | [],_=>rfl
  | x :: l,p=>by simp only [appL]; rw [appL_marks]; simp [appE,putO_marks]

def selF (S:Nat → Bool):Nat → List LogE → List LogE
  | _,[]=>[]
  | k,x :: r=>if S k then x :: selF S (k+1) r else selF S (k+1) r

def dIs (t:Nat) (x:LogE):Bool:=x.d == some t
def wIs (k:Nat) (x:LogE):Bool:=memN k (keys x.wr)

theorem app_get_filter {t:Nat}:∀ {l:List LogE} {p q:Env × Heap},p.1.get t=q.1.get t → (appL p l).1.get t=(appL q (l.filter (dIs t))).1.get t
  | [],_,_,h=>h
  | x :: l,p,q,h=>by
    simp only [appL]
    by_cases hx:dIs t x=true
    · rw [List.filter_cons_of_pos hx]
      simp only [appL]
      refine app_get_filter ?_
      simp only [dIs,beq_iff_eq] at hx
      simp [appE,hx,putO,get_put]
    · rw [List.filter_cons_of_neg (by simpa using hx)]
      refine app_get_filter ?_
      simp only [dIs,beq_iff_eq] at hx
      simp only [appE]
      cases hd:x.d with
      | none=>exact h
      | some d =>
        rw [hd] at hx
        simp only [putO]
        rw [get_put,if_neg (by rintro rfl; exact hx rfl)]
        exact h

theorem app_look_filter {k:Nat}:∀ {l:List LogE} {p q:Env × Heap},look p.2 k=look q.2 k → look (appL p l).2 k=look (appL q (l.filter (wIs k))).2 k
  | [],_,_,h=>h
  | x :: l,p,q,h=>by
    simp only [appL]
    have hlk:∀ p:Env × Heap,look (appE p x).2 k=(look x.wr k).or (look p.2 k):=fun p=>look_append
    by_cases hx:wIs k x=true
    · rw [List.filter_cons_of_pos hx]
      simp only [appL]
      refine app_look_filter ?_
      rw [hlk,hlk,h]
    · rw [List.filter_cons_of_neg (by simpa using hx)]
      refine app_look_filter ?_
      rw [hlk,h]
      have:look x.wr k=none:=by
        cases hl:look x.wr k with
        | none=>rfl
        | some y=>exact absurd (memN_iff.2 (look_keys hl)) hx
      simp [this]

theorem sel_take {p:LogE → Bool}:∀ (S:Nat → Bool) (l:List LogE) (k m:Nat),(∀ i x,l[i]? = some x → p x=true → (S (k+i)=true ↔ i < m)) → (selF S k l).filter p=(l.take m).filter p
  | S,[],k,m,h=>by simp [selF]
  | S,x :: l,k,m,h=>by
    have ih:=fun m=>sel_take (p:=p) S l (k+1) m
    simp only [selF]
    by_cases hp:p x=true
    · have h0:=h 0 x (by simp) hp
      by_cases hm:0 < m
      · obtain ⟨m',rfl⟩:∃ m',m=m'+1:=⟨m - 1,by omega⟩
        rw [if_pos (by simpa using h0.2 hm),List.take_succ_cons,List.filter_cons_of_pos hp,List.filter_cons_of_pos hp]
        congr 1
        refine ih m' fun i y hy hpy=>?_
        have:=h (i+1) y (by simpa using hy) hpy
        rw [show k+1+i=k+(i+1) from by omega,this]; omega
      · have hm0:m=0:=by omega
        subst hm0
        rw [if_neg (by intro hs; have:=h0.1 (by simpa using hs); omega)]
        have:=ih 0 fun i y hy hpy=>by
          have:=h (i+1) y (by simpa using hy) hpy
          rw [show k+1+i=k+(i+1) from by omega,this]; omega
        rw [this]; simp
    · cases m with
      | zero =>
        have:=ih 0 fun i y hy hpy=>by
          have:=h (i+1) y (by simpa using hy) hpy
          rw [show k+1+i=k+(i+1) from by omega,this]; omega
        split
        · rw [List.filter_cons_of_neg hp,this]; simp
        · rw [this]; simp
      | succ m =>
        have:=ih m fun i y hy hpy=>by
          have:=h (i+1) y (by simpa using hy) hpy
          rw [show k+1+i=k+(i+1) from by omega,this]; omega
        rw [List.take_succ_cons,List.filter_cons_of_neg hp]
        split
        · rw [List.filter_cons_of_neg hp,this]
        · rw [this]

def insS (S:Nat → Bool) (j:Nat):Nat → Bool:=fun i=>if i=j then true else S i

theorem sel_none:∀ (S S':Nat → Bool) (l:List LogE) (k:Nat),(∀ i,k≤i → S i=S' i) → selF S k l=selF S' k l
  | _,_,[],_,_=>rfl
  | S,S',x :: l,k,h=>by
    simp only [selF]
    rw [h k (Nat.le_refl _),sel_none S S' l (k+1) (fun i hi=>h i (by omega))]

theorem sel_ins {p:LogE → Bool}:∀ (S:Nat → Bool) (l:List LogE) (k j:Nat) (y:LogE),l[j]? = some y → S (k+j)=false → (∀ i x,l[i]? = some x → j < i → p y=true → p x=true → S (k+i)=false) →
    (selF (insS S (k+j)) k l).filter p=(selF S k l ++ [y]).filter p
  | S,[],k,j,y,h,_,_=>by simp at h
  | S,x :: l,k,0,y,h,hs,hl=>by
    simp at h; subst h
    simp only [selF,Nat.add_zero] at hs ⊢
    have h1:insS S k k=true:=by simp [insS]
    rw [if_pos h1,if_neg (by simp [hs]),sel_none (insS S k) S l (k+1) (fun i hi=>by simp only [insS]; rw [if_neg (by omega)])]
    rw [List.filter_append]
    by_cases hp:p x=true
    · rw [List.filter_cons_of_pos hp]
      have hnil:(selF S (k+1) l).filter p=[]:=by
        have:=sel_take (p:=p) S l (k+1) 0 (fun i z hz hpz=>by
          have:=hl (i+1) z (by simpa using hz) (by omega) hp hpz
          rw [show k+1+i=k+(i+1) from by omega,this]; simp)
        rw [this]; simp
      rw [hnil]; simp [hp]
    · rw [List.filter_cons_of_neg hp]; simp [hp]
  | S,x :: l,k,j+1,y,h,hs,hl=>by
    have ih:=sel_ins S l (k+1) j y (by simpa using h) (by rw [show k+1+j=k+(j+1) from by omega]; exact hs) (fun i z hz hij hpy hpz=>by
      have:=hl (i+1) z (by simpa using hz) (by omega) hpy hpz
      rw [show k+1+i=k+(i+1) from by omega]; exact this)
    rw [show k+1+j=k+(j+1) from by omega] at ih
    simp only [selF]
    have h1:insS S (k+(j+1)) k=S k:=by simp only [insS]; rw [if_neg (by omega)]
    rw [h1]
    split
    · rw [List.cons_append,List.filter_cons,List.filter_cons,ih]
    · exact ih

theorem sel_all:∀ (S:Nat → Bool) (l:List LogE) (k:Nat),(∀ i,i < l.length → S (k+i)=true) → selF S k l=l
  | _,[],_,_=>rfl
  | S,x :: l,k,h=>by
    simp only [selF]
    rw [if_pos (by simpa using h 0 (by simp)),sel_all S l (k+1) (fun i hi=>by rw [show k+1+i=k+(i+1) from by omega]; exact h (i+1) (by simpa using hi))]

theorem sel_mem:∀ {S:Nat → Bool} {l:List LogE} {k:Nat} {x:LogE},x ∈ selF S k l → ∃ i,l[i]? = some x∧S (k+i)=true
  | _,[],_,_,h=>by cases h
  | S,y :: l,k,x,h=>by
    simp only [selF] at h
    split at h
    · rename_i hs
      rcases List.mem_cons.1 h with rfl | h
      · exact⟨0,by simp,by simpa using hs⟩
      · obtain ⟨i,h1,h2⟩:=sel_mem h
        exact⟨i+1,by simpa using h1,by rw [show k+(i+1)=k+1+i from by omega]; exact h2⟩
    · obtain ⟨i,h1,h2⟩:=sel_mem h
      exact⟨i+1,by simpa using h1,by rw [show k+(i+1)=k+1+i from by omega]; exact h2⟩

theorem app_get_src:∀ {l:List LogE} {p:Env × Heap} {t:Nat},(appL p l).1.get t=p.1.get t ∨ ∃ x ∈ l,(appL p l).1.get t=x.sv
  | [],_,_=>.inl rfl
  | x :: l,p,t=>by
    simp only [appL]
    rcases app_get_src (l:=l) (p:=appE p x) (t:=t) with h | ⟨y,hy,h⟩
    · rw [h]
      cases hd:x.d with
      | none=>left; simp [appE,hd,putO]
      | some d =>
        by_cases ht:t=d
        · right; exact⟨x,by simp,by simp [appE,hd,putO,get_put,ht]⟩
        · left; simp [appE,hd,putO,get_put,ht]
    · exact .inr ⟨y,List.mem_cons_of_mem _ hy,h⟩

theorem app_look_src:∀ {l:List LogE} {p:Env × Heap} {k:Nat} {o:Bool × SO},look (appL p l).2 k=some o → look p.2 k=some o ∨ ∃ x ∈ l,look x.wr k=some o
  | [],_,_,_,h=>.inl h
  | x :: l,p,k,o,h=>by
    simp only [appL] at h
    rcases app_look_src (l:=l) (p:=appE p x) h with h | ⟨y,hy,h⟩
    · simp only [appE] at h
      rw [look_append] at h
      cases hx:look x.wr k with
      | none=>rw [hx] at h; simp at h; exact .inl h
      | some z=>rw [hx] at h; simp at h; subst h; exact .inr ⟨x,by simp,hx⟩
    · exact .inr ⟨y,List.mem_cons_of_mem _ hy,h⟩

def Closed (ops:Array Oper) (S:Nat → Bool):Prop:=∀ i o,ops[i]? = some o → S i=true → ∀ e ∈ o.after,bindsAny e=true → S e.on=true

def AncOK (ops:Array Oper) (A:List (Nat × Nat)):Prop:=∀ i m,(i,m) ∈ A → ∀ S,Closed ops S → S i=true → ∀ j,bitAt m j=true → S j=true

theorem bitAt_lor (a b j:Nat):bitAt (Nat.lor a b) j=(bitAt a j || bitAt b j):=by
  simp only [bitAt_testBit]; exact Nat.testBit_or a b j
theorem bitAt_bit (a j:Nat):bitAt (bit a) j=true ↔ j=a:=by
  rw [bitAt_testBit]
  show (1 <<< a).testBit j=true ↔ _
  rw [Nat.one_shiftLeft,Nat.testBit_two_pow]
  simp [eq_comm]
theorem bitAt_zero (j:Nat):bitAt 0 j=false:=by rw [bitAt_testBit]; simp

theorem ancE_ok {ops:Array Oper} {A:List (Nat × Nat)} (hA:AncOK ops A) {i:Nat}:∀ (es:List Edge) (m m':Nat),ancE A i es m=some m' →
    (∀ S,Closed ops S → (∀ e ∈ es,bindsAny e=true → S e.on=true) → (∀ j,bitAt m j=true → S j=true) → ∀ j,bitAt m' j=true → S j=true)∧∀ e ∈ es,bindsAny e=true → e.on < i
  | [],m,m',h=>by simp [ancE] at h; subst h; exact⟨fun S _ _ h=>h,by simp⟩
  | e :: r,m,m',h=>by
    simp only [ancE] at h
    cases hb:bindsAny e with
    | false =>
      simp [hb] at h
      have ih:=ancE_ok hA r m m' h
      refine⟨fun S hS he hm=>ih.1 S hS (fun e' he'=>he e' (List.mem_cons_of_mem _ he')) hm,fun e' he' hb'=>?_⟩
      rcases List.mem_cons.1 he' with rfl | he'
      · rw [hb] at hb'; cases hb'
      · exact ih.2 e' he' hb'
    | true =>
      simp only [hb,cond_true] at h
      cases hl:Nat.blt e.on i with
      | false=>simp [hl] at h
      | true =>
        simp only [hl,cond_true] at h
        split at h
        · rename_i mm hmm
          have ih:=ancE_ok hA r _ m' h
          refine⟨fun S hS he hm=>ih.1 S hS (fun e' he'=>he e' (List.mem_cons_of_mem _ he')) ?_,fun e' he' hb'=>?_⟩
          · intro j hj
            rw [bitAt_lor,bitAt_lor] at hj
            simp only [Bool.or_eq_true] at hj
            have hon:=he e (List.mem_cons_self ..) hb
            rcases hj with hj | hj | hj
            · rw [(bitAt_bit _ _).1 hj]; exact hon
            · exact hA _ _ (lookN_mem hmm) S hS hon j hj
            · exact hm j hj
          · rcases List.mem_cons.1 he' with rfl | he'
            · exact Eq.mp Nat.blt_eq hl
            · exact ih.2 e' he' hb'
        · cases h

theorem ancsK_ok {ops:Array Oper} {K:List (Nat × Nat) → Prop}:∀ (l:List Oper) (i:Nat) (A:List (Nat × Nat)),(∀ j,l[j]? = ops[i+j]?) → AncOK ops A → ancsK l i A K →
    ∃ A',K A'∧AncOK ops A'∧∀ j o,l[j]? = some o → ∀ e ∈ o.after,bindsAny e=true → e.on < i+j
  | [],i,A,hl,hA,h=>⟨A,h,hA,by simp⟩
  | o :: r,i,A,hl,hA,h=>by
    simp only [ancsK] at h
    split at h
    · rename_i m hm
      simp only [forceN_eq] at h
      have ho:ops[i]? = some o:=by simpa using (hl 0).symm
      have he:=ancE_ok hA o.after.toList 0 m hm
      have hA':AncOK ops ((i,m) :: A):=by
        intro i' m' hmem S hS hSi j hj
        rcases List.mem_cons.1 hmem with heq | hmem
        · simp at heq; obtain ⟨rfl,rfl⟩:=heq
          refine he.1 S hS (fun e hee hb=>hS _ o ho hSi e (by simpa using hee) hb) (fun j hj=>by rw [bitAt_zero] at hj; cases hj) j hj
        · exact hA i' m' hmem S hS hSi j hj
      obtain ⟨A',hK,hA2,hb⟩:=ancsK_ok r (i+1) _ (fun j=>by have:=hl (j+1); simpa [Nat.add_assoc,Nat.add_comm 1 j] using this) hA' h
      refine⟨A',hK,hA2,fun j o' ho' e hee hb'=>?_⟩
      cases j with
      | zero=>simp at ho'; subst ho'; have:=he.2 e (by simpa using hee) hb'; omega
      | succ j=>have:=hb j o' (by simpa using ho') e hee hb'; omega
    · exact h.elim

theorem chk1_ok {m:Nat} {y:LogE}:∀ {l:List (Nat × LogE)},chk1 m y l=true → ∀ i x,(i,x) ∈ l → conf x y=true → bitAt m i=true∧anyMem y.news x.nms=false
  | [],_,_,_,h,_=>by cases h
  | (i0,x0) :: r,h,i,x,hm,hc=>by
    simp only [chk1] at h
    rcases List.mem_cons.1 hm with he | hm
    · simp at he; obtain ⟨rfl,rfl⟩:=he
      rw [hc] at h; simp only [cond_true] at h
      cases hb:bitAt m i with
      | false=>simp [hb] at h
      | true =>
        simp only [hb,cond_true] at h
        cases hn:anyMem y.news x.nms with
        | true=>simp [hn] at h
        | false=>exact⟨rfl,rfl⟩
    · have hr:chk1 m y r=true:=by
        cases h0:conf x0 y with
        | false=>simpa [h0] using h
        | true =>
          simp only [h0,cond_true] at h
          cases hb:bitAt m i0 with
          | false=>simp [hb] at h
          | true =>
            simp only [hb,cond_true] at h
            cases hn:anyMem y.news x0.nms with
            | true=>simp [hn] at h
            | false=>simpa [hn] using h
      exact chk1_ok hr i x hm hc

theorem chkAll_ok {A:List (Nat × Nat)}:∀ (l:List LogE) (k:Nat) (done:List (Nat × LogE)),chkAll A k l done=true →
    ∀ j y,l[j]? = some y → ∃ m,(k+j,m) ∈ A∧(∀ i x,(i,x) ∈ done → conf x y=true → bitAt m i=true∧anyMem y.news x.nms=false) ∧
      ∀ i x,i < j → l[i]? = some x → conf x y=true → bitAt m (k+i)=true∧anyMem y.news x.nms=false
  | [],_,_,_,j,y,h=>by simp at h
  | z :: l,k,done,h,j,y,hy=>by
    simp only [chkAll] at h
    split at h
    · rename_i m hm
      cases hc:chk1 m z done with
      | false=>simp [hc] at h
      | true =>
        simp only [hc,cond_true] at h
        cases j with
        | zero =>
          simp at hy; subst hy
          exact⟨m,lookN_mem hm,fun i x hi hcf=>chk1_ok hc i x hi hcf,fun i x hi=>by omega⟩
        | succ j =>
          obtain ⟨m',h1,h2,h3⟩:=chkAll_ok l (k+1) ((k,z) :: done) h j y (by simpa using hy)
          refine⟨m',by rw [show k+(j+1)=k+1+j from by omega]; exact h1,fun i x hi=>h2 i x (List.mem_cons_of_mem _ hi),fun i x hij hx hcf=>?_⟩
          cases i with
          | zero=>simp at hx; subst hx; exact h2 k z (List.mem_cons_self ..) hcf
          | succ i =>
            have:=h3 i x (by omega) (by simpa using hx) hcf
            rw [show k+(i+1)=k+1+i from by omega]; exact this
    · cases h

theorem newsIn_ok {nx n:Nat}:∀ {l:List LogE},newsIn nx n l=true → ∀ x ∈ l,∀ k ∈ x.news,nx≤k∧k < n
  | [],_,_,h=>by cases h
  | y :: l,h,x,hx=>by
    simp only [newsIn] at h
    obtain ⟨h1,h⟩:allLt n y.news=true∧(bif allGeN nx y.news then newsIn nx n l else false)=true:=by
      cases h1:allLt n y.news <;> simp_all
    obtain ⟨h2,h⟩:allGeN nx y.news=true∧newsIn nx n l=true:=by
      cases h1:allGeN nx y.news <;> simp_all
    rcases List.mem_cons.1 hx with rfl | hx
    · exact fun k hk=>⟨allGeN_ok h2 k hk,allLt_iff.1 h1 k hk⟩
    · exact newsIn_ok h x hx

theorem conf_d_rs {x y:LogE} {d:Nat} (h1:x.d=some d) (h2:d ∈ y.rs):conf x y=true:=by
  simp [conf,optIn,h1,memN_iff.2 h2]
theorem conf_rs_d {x y:LogE} {d:Nat} (h1:y.d=some d) (h2:d ∈ x.rs):conf x y=true:=by
  have:optIn y.d x.rs=true:=by simp [optIn,h1,memN_iff.2 h2]
  simp only [conf,this]; cases optIn x.d y.rs <;> rfl
theorem conf_d_d {x y:LogE} {d:Nat} (h1:x.d=some d) (h2:y.d=some d):conf x y=true:=by
  have:optEq x.d y.d=true:=by simp [optEq,h1,h2]
  simp only [conf,this]; cases optIn x.d y.rs <;> cases optIn y.d x.rs <;> rfl
theorem conf_wr_rd {x y:LogE} {k:Nat} (h1:k ∈ keys x.wr) (h2:k ∈ y.rd):conf x y=true:=by
  have:anyMem (keys x.wr) y.rd=true:=anyMem_iff.2 ⟨k,h2,h1⟩
  simp only [conf,this]; cases optIn x.d y.rs <;> cases optIn y.d x.rs <;> cases optEq x.d y.d <;> rfl
theorem conf_wr_wr {x y:LogE} {k:Nat} (h1:k ∈ keys x.wr) (h2:k ∈ keys y.wr):conf x y=true:=by
  have:anyMem (keys x.wr) (keys y.wr)=true:=anyMem_iff.2 ⟨k,h2,h1⟩
  simp only [conf,this]; cases optIn x.d y.rs <;> cases optIn y.d x.rs <;> cases optEq x.d y.d <;> cases anyMem (keys x.wr) y.rd <;> rfl
theorem conf_rd_wr {x y:LogE} {k:Nat} (h1:k ∈ keys y.wr) (h2:k ∈ x.rd):conf x y=true:=by
  have:anyMem (keys y.wr) x.rd=true:=anyMem_iff.2 ⟨k,h2,h1⟩
  simp only [conf,this]; cases optIn x.d y.rs <;> cases optIn y.d x.rs <;> cases optEq x.d y.d <;> cases anyMem (keys x.wr) y.rd <;> cases anyMem (keys x.wr) (keys y.wr) <;> rfl
theorem conf_news {x y:LogE} {k:Nat} (h1:k ∈ x.news) (h2:k ∈ y.nms):conf x y=true:=by
  have:anyMem x.news y.nms=true:=anyMem_iff.2 ⟨k,h2,h1⟩
  simp only [conf,this]; cases optIn x.d y.rs <;> cases optIn y.d x.rs <;> cases optEq x.d y.d <;> cases anyMem (keys x.wr) y.rd <;> cases anyMem (keys x.wr) (keys y.wr) <;> cases anyMem (keys y.wr) x.rd <;> rfl
theorem conf_news' {x y:LogE} {k:Nat} (h1:k ∈ y.news) (h2:k ∈ x.nms):conf x y=true:=by
  have:anyMem y.news x.nms=true:=anyMem_iff.2 ⟨k,h2,h1⟩
  simp only [conf,this]; cases optIn x.d y.rs <;> cases optIn y.d x.rs <;> cases optEq x.d y.d <;> cases anyMem (keys x.wr) y.rd <;> cases anyMem (keys x.wr) (keys y.wr) <;> cases anyMem (keys y.wr) x.rd <;> cases anyMem x.news y.nms <;> rfl


theorem nms_sv {x:LogE} {k:Nat} (h:x.sv.uses [k]=true):k ∈ x.nms:=List.mem_append_left _ (SV.uses_nms.1 h)
theorem nms_wr {x:LogE} {k j:Nat} {own:Bool} {o:SO} (h:look x.wr j=some (own,o)) (hk:j=k ∨ o.uses [k]=true):k ∈ x.nms:=by
  have:=look_nms h
  rcases hk with rfl | hk
  · exact List.mem_append_right _ this.1
  · exact List.mem_append_right _ (this.2 k (SO.uses_nms.1 hk))

theorem draw_sound {cx:Cx} {B:Tabs} (hB:TabsOK cx.P B) {id:Nat} {ops:Array Oper} {Q:Exit → St → Prop} {s:St} (h:drawK cx B ops (fun s'=>Q .normal s') s):Sound cx (.region id ops true) Q s:=by
  refine⟨fun ρ a w hs QQ hQ=>?_⟩
  obtain ⟨A,h,hA,hback⟩:=ancsK_ok (ops:=ops) ops.toList 0 [] (by simp) (by intro i m hm; cases hm) h
  obtain ⟨log,s',gs,hK,hlog,hfin,hgs,hle⟩:=vcAny_ok hB ops.toList s [] [] h (by intro d t hm; cases hm) hs.n0
  simp only [List.reverse_nil,List.nil_append] at hK
  obtain ⟨hchk,hq⟩:=bif_and hK
  simp only [forceO2_eq] at hq
  simp only [Bool.and_eq_true] at hchk
  obtain ⟨hchk,hnews⟩:=hchk
  have hchk:=chkAll_ok log 0 [] hchk
  have hnews:=newsIn_ok hnews
  obtain ⟨hlen,hget⟩:=hlog.get
  have hlen':log.length=ops.size:=by simpa using hlen
  simp only [Nat.zero_add] at hchk hback
  have pair:∀ i j x y,i < j → log[i]? = some x → log[j]? = some y → conf x y=true → (∀ S,Closed ops S → S j=true → S i=true)∧∀ k ∈ y.news,k ∉ x.nms:=by
    intro i j x y hij hx hy hc
    obtain ⟨m,hm,_,h3⟩:=hchk j y hy
    have:=h3 i x hij hx hc
    refine⟨fun S hS hj=>hA j m hm S hS hj i this.1,fun k hk hkx=>?_⟩
    have h4:anyMem y.news x.nms=true:=anyMem_iff.2 ⟨k,hkx,hk⟩
    rw [this.2] at h4; cases h4
  let stS:(Nat → Bool) → St:=fun S=>⟨(appL (s.e,s.H) (selF S 0 log)).1,(appL (s.e,s.H) (selF S 0 log)).2,s'.nx⟩
  have key:∀ fuel (listed:Array Bool) (ρ:Asg) (a:Act) (w:World),listed.size=ops.size → listed.toList.count false=fuel → Closed ops (fun i=>listed.getD i false) →
      Sat cx ρ (stS fun i=>listed.getD i false) a w → wpAnyIn (fen cx.rd) 0 cx.P .any ops QQ fuel listed a w:=by
    intro fuel
    induction fuel with
    | zero =>
      intro listed ρ a w hsz hcnt hcl hsat
      have hall:∀ i,i < ops.size → listed.getD i false=true:=by
        intro i hi
        have:listed[i]'(by omega) ≠ false:=by
          intro hf
          have hm:false ∈ listed.toList:=by rw [← hf]; simp
          have:=List.count_pos_iff.2 hm
          omega
        simp [Array.getD,show i < listed.size by omega]
        simpa using this
      refine wpAnyIn_done ?_ ?_ 0
      · cases hr:Region.ready .any ops listed with
        | nil=>rfl
        | cons j r =>
          have hj:j ∈ Region.ready .any ops listed:=by rw [hr]; exact List.mem_cons_self ..
          obtain ⟨h1,o,ho,_⟩:=mem_ready.1 hj
          have hlt:j < ops.size:=(Array.getElem?_eq_some_iff.1 ho).1
          have:=hall j hlt
          simp [Array.getD,show j < listed.size by omega] at h1 this
          rw [h1] at this; cases this
      · have hsel:selF (fun i=>listed.getD i false) 0 log=log:=sel_all _ _ _ fun i hi=>by
          simp only [Nat.zero_add]; exact hall i (by omega)
        have e1:stS (fun i=>listed.getD i false)=⟨s'.e,s'.H,s'.nx⟩:=by
          simp only [stS,hsel,← hfin]
        rw [e1] at hsat
        refine hQ _ ⟨ovl gs s'.e,s'.H,s'.nx⟩ ρ a w hq (hsat.congr (fun i=>?_) (fun _=>rfl) rfl ovl_marks)
        simp only [ovl_get]
        cases hg:lookB gs i with
        | none=>exact .inl rfl
        | some t=>exact .inr ⟨t,hgs i t (lookB_mem hg), .inl rfl⟩
    | succ fuel ih =>
      intro listed ρ a w hsz hcnt hcl hsat
      obtain ⟨S,hS⟩:∃ S:Nat → Bool,S=fun i=>listed.getD i false:=⟨_,rfl⟩
      rw [← hS] at hcl hsat
      refine⟨fun hr=>?_,fun j hj=>?_⟩
      ·
        exfalso
        have hex:∃ i,i < ops.size∧S i=false:=by
          have hm:false ∈ listed.toList:=List.count_pos_iff.1 (by omega)
          obtain ⟨i,hi,he⟩:=List.mem_iff_getElem.1 hm
          refine⟨i,by simpa [hsz] using hi, ?_⟩
          have hi':i < listed.size:=by simpa using hi
          rw [hS]; simp [Array.getD,hi']
          simpa using he
        have hmin:∀ n i,i < n → i < ops.size → S i=false → ∃ j,j < ops.size∧S j=false∧∀ i,i < j → S i=true:=by
          intro n
          induction n with
          | zero=>intro i hi; omega
          | succ n ihn =>
            intro i hi hio hSi
            by_cases hlow:∃ i',i' < i∧S i'=false
            · obtain ⟨i',h1,h2⟩:=hlow
              exact ihn i' (by omega) (by omega) h2
            · refine⟨i,hio,hSi,fun i' hi'=>?_⟩
              cases hb:S i' with
              | true=>rfl
              | false=>exact absurd ⟨i',hi',hb⟩ hlow
        obtain ⟨i,hio,hSi⟩:=hex
        obtain ⟨j,hjo,hSj,hbefore⟩:=hmin (i+1) i (by omega) hio hSi
        have:j ∈ Region.ready .any ops listed:=by
          refine mem_ready.2 ⟨?_,ops[j],by simp [hjo],fun e he hb=>?_⟩
          · rw [hS] at hSj
            simp [Array.getD,show j < listed.size by omega] at hSj ⊢
            exact hSj
          · rw [bindsAny_eq] at hb
            have:=hbefore e.on (hback j ops[j] (by simp [hjo]) e he hb)
            rw [hS] at this; exact this
        rw [hr] at this; cases this
      · obtain ⟨hun,o,ho,hdeps⟩:=mem_ready.1 hj
        have hjo:j < ops.size:=(Array.getElem?_eq_some_iff.1 ho).1
        have hjl:j < listed.size:=by omega
        have hSj:S j=false:=by
          rw [hS]
          simp [Array.getD,hjl] at hun ⊢
          exact hun
        have ho':ops.toList[j]? = some o:=by simpa using ho
        obtain ⟨x,hx,hent⟩:=hget j o ho'
        have hS':(fun i=>(listed.setIfInBounds j true).getD i false)=insS S j:=by
          funext i
          rw [hS]
          simp only [insS]
          by_cases hij:i=j
          · subst hij; simp [Array.getD_eq_getD_getElem?,hjl]
          · have:¬ j=i:=fun h=>hij h.symm
            simp [Array.getD_eq_getD_getElem?,Array.getElem?_setIfInBounds,hij,this]
        have hcl':Closed ops (insS S j):=by
          intro i oi hoi hsi e he hb
          have hone:S e.on=true:=by
            by_cases hij:i=j
            · subst hij
              rw [ho] at hoi; simp at hoi; subst hoi
              have:=hdeps e he (by rw [bindsAny_eq]; exact hb)
              rw [hS]; exact this
            · simp only [insS] at hsi; rw [if_neg hij] at hsi
              exact hcl i oi hoi hsi e he hb
          simp only [insS]; split
          · rfl
          · exact hone
        have hins:∀ i,i ≠ j → insS S j i=S i:=fun i hi=>by simp only [insS]; rw [if_neg hi]
        have hinsj:insS S j j=true:=by simp [insS]
        have hbef:∀ i y,i < j → log[i]? = some y → conf y x=true → S i=true:=fun i y hij hy hc=>by
          rw [← hins i (by omega)]
          exact (pair i j y x hij hy hx hc).1 _ hcl' hinsj
        have haft:∀ i y,j < i → log[i]? = some y → conf x y=true → S i=false:=fun i y hij hy hc=>by
          cases hb:S i with
          | false=>rfl
          | true =>
            have:=(pair j i x y hij hx hy hc).1 _ hcl hb
            rw [hSj] at this; cases this
        have hslot:∀ t ∈ x.rs,(stS S).e.get t=(appL (s.e,s.H) (log.take j)).1.get t:=by
          intro t ht
          simp only [stS]
          rw [app_get_filter (q:=(s.e,s.H)) rfl,app_get_filter (l:=log.take j) (q:=(s.e,s.H)) rfl]
          rw [sel_take (p:=dIs t) S log 0 j]
          intro i y hy hp
          simp only [Nat.zero_add]
          simp only [dIs,beq_iff_eq] at hp
          constructor
          · intro hi
            rcases Nat.lt_trichotomy i j with h1 | h1 | h1
            · exact h1
            · subst h1; rw [hSj] at hi; cases hi
            · have:=haft i y h1 hy (conf_rs_d hp ht)
              rw [hi] at this; cases this
          · intro hij
            exact hbef i y hij hy (conf_d_rs hp ht)
        have hreg:∀ k ∈ x.rd,look (stS S).H k=look (appL (s.e,s.H) (log.take j)).2 k:=by
          intro k hk
          simp only [stS]
          rw [app_look_filter (q:=(s.e,s.H)) rfl,app_look_filter (l:=log.take j) (q:=(s.e,s.H)) rfl]
          rw [sel_take (p:=wIs k) S log 0 j]
          intro i y hy hp
          simp only [Nat.zero_add]
          have hp:=memN_iff.1 hp
          constructor
          · intro hi
            rcases Nat.lt_trichotomy i j with h1 | h1 | h1
            · exact h1
            · subst h1; rw [hSj] at hi; cases hi
            · have:=haft i y h1 hy (conf_rd_wr hp hk)
              rw [hi] at this; cases this
          · intro hij
            exact hbef i y hij hy (conf_wr_rd hp hk)
        have hnextE:∀ t,(stS (insS S j)).e.get t=if x.d=some t then x.sv else (stS S).e.get t:=by
          intro t
          simp only [stS]
          rw [app_get_filter (q:=(s.e,s.H)) rfl]
          have hsi:=sel_ins (p:=dIs t) S log 0 j x hx (by simpa using hSj) (fun i y hy hij hpx hpy=>by
            simp only [Nat.zero_add]
            simp only [dIs,beq_iff_eq] at hpx hpy
            exact haft i y hij hy (conf_d_d hpx hpy))
          rw [Nat.zero_add] at hsi
          rw [hsi,← app_get_filter (p:=(s.e,s.H)) (q:=(s.e,s.H)) rfl]
          have happ:∀ (l:List LogE) (p:Env × Heap),appL p (l ++ [x])=appE (appL p l) x:=by
            intro l; induction l with
            | nil=>intro p; rfl
            | cons z l ihl=>intro p; simp only [List.cons_append,appL]; exact ihl _
          rw [happ]
          simp only [appE]
          cases hd:x.d with
          | none=>simp [putO]
          | some d =>
            simp only [putO]
            rw [get_put]
            by_cases htd:t=d
            · simp [htd]
            · rw [if_neg htd,if_neg (by simp; exact fun h=>htd h.symm)]
        have hnextH:∀ k,look (stS (insS S j)).H k=look (x.wr ++ (stS S).H) k:=by
          intro k
          simp only [stS]
          rw [app_look_filter (q:=(s.e,s.H)) rfl]
          have hsi:=sel_ins (p:=wIs k) S log 0 j x hx (by simpa using hSj) (fun i y hy hij hpx hpy=>by
            simp only [Nat.zero_add]
            exact haft i y hij hy (conf_wr_wr (memN_iff.1 hpx) (memN_iff.1 hpy)))
          rw [Nat.zero_add] at hsi
          rw [hsi,← app_look_filter (p:=(s.e,s.H)) (q:=(s.e,s.H)) rfl]
          have happ:∀ (l:List LogE) (p:Env × Heap),appL p (l ++ [x])=appE (appL p l) x:=by
            intro l; induction l with
            | nil=>intro p; rfl
            | cons z l ihl=>intro p; simp only [List.cons_append,appL]; exact ihl _
          rw [happ]
          rfl
        have hcnt':(listed.setIfInBounds j true).toList.count false=fuel:=by
          have hj':j < listed.toList.length:=by simpa using hjl
          have hval:listed.toList[j]=false:=by
            rw [hS] at hSj
            simp [Array.getD,hjl] at hSj
            simpa using hSj
          rw [Array.toList_setIfInBounds,List.count_set hj']
          have hcnt2:Array.count false listed=fuel+1:=by simpa using hcnt
          simp [hval,hcnt2]
        have hgo:∀ ρ' a' w',Sat cx ρ' (stS (insS S j)) a' w' → wpAnyIn (fen cx.rd) 0 cx.P .any ops QQ fuel (listed.setIfInBounds j true) a' w':=fun ρ' a' w' hsat' =>
          ih _ ρ' a' w' (by simpa using hsz) hcnt' (by rw [hS']; exact hcl') (by rw [hS']; exact hsat')
        have hdst:=dst_lt hent.dst
        have hguard:∀ j' want d t,o.guard=some (j',want) → dstOf ops j'=some d → d ∈ x.rs → isBool ((appL (s.e,s.H) (log.take j)).1.get d) t → Region.wanted o (yielded ops a.tmps)=(t == want):=by
          intro j' want d t hg hd hdr hb
          have hv:a.tmps.getD d undef=.bool t:=by
            have:=hsat.env d
            rw [hslot d hdr] at this
            exact (isBool_rel hb).1 this
          simp only [Region.wanted,hg,yielded_of hd hv]
          cases t <;> cases want <;> rfl
        unfold wpOpIn
        simp only [ho]
        rcases hent.act with ⟨⟨gs1,f,hgs1,hloc,f1,f2,f3,f4,hrds⟩,hg⟩ | ⟨⟨f1,f2,f3,f4⟩,j',want,d,hg,hd,hdr,hb⟩
        · have hw:Region.wanted o (yielded ops a.tmps)=true:=by
            rcases hg with hg | ⟨j',want,d,hg,hd,hdr,hb⟩
            · simp [Region.wanted,hg]
            · rw [hguard j' want d want hg hd hdr hb]; cases want <;> rfl
          rw [if_pos hw]
          have hsat1:Sat cx ρ { stS S with e:=ovl (gs1.filter fun p=>memN p.1 x.rs) (stS S).e } a w:=by
            refine hsat.congr (fun i=>?_) (fun _=>rfl) rfl ovl_marks
            simp only [ovl_get]
            cases hl:lookB (gs1.filter fun p=>memN p.1 x.rs) i with
            | none=>exact .inl rfl
            | some t =>
              have hm:=List.mem_filter.1 (lookB_mem hl)
              refine .inr ⟨t, ?_, .inl rfl⟩
              rw [hslot i (memN_iff.1 hm.2)]
              exact hgs1 i t hm.1
          have hlk:∀ i,i ∈ x.rs → lookB (gs1.filter fun p=>memN p.1 x.rs) i=lookB gs1 i:=by
            intro i hi
            clear hgs1 hloc hsat1
            induction gs1 with
            | nil=>rfl
            | cons p r ihg =>
              obtain ⟨d,t⟩:=p
              by_cases hid:i=d
              · subst hid
                rw [List.filter_cons_of_pos (by simpa using memN_iff.2 hi)]
                simp [lookB]
              · have hbq:Nat.beq i d=false:=by cases hq:Nat.beq i d with
                  | false=>rfl
                  | true=>exact absurd (Nat.eq_of_beq_eq_true hq) hid
                simp only [List.filter_cons]
                split
                · simp only [lookB,hbq,cond_false]; exact ihg
                · simp only [lookB,hbq,cond_false]; exact ihg
          refine hloc ρ _ a w hsat1 ?_ ?_ ?_ hdst _ _ ?_
          · intro t ht
            have htr:=hrds t ht
            simp only [ovl_get,hlk t htr]
            rw [hslot t htr]
          · intro k hk
            rw [f2] at hk
            exact hreg k hk
          · intro k hk
            rw [f4] at hk
            have hxm:x ∈ log:=List.mem_of_getElem? hx
            have hkge:=hent.news k hk
            have hno:∀ y,y ∈ selF S 0 log → k ∉ y.nms:=by
              intro y hy hky
              obtain ⟨i,hi,hsi⟩:=sel_mem hy
              simp only [Nat.zero_add] at hsi
              rcases Nat.lt_trichotomy i j with h1 | h1 | h1
              · exact (pair i j y x h1 hi hx (conf_news' hk hky)).2 k hk hky
              · subst h1; rw [hSj] at hsi; cases hsi
              · have:=haft i y h1 hi (conf_news hk hky)
                rw [hsi] at this; cases this
            have hk0:s.nx≤k:=(hnews x hxm k hk).1
            refine⟨⟨fun i=>?_,fun hm=>by
              simp only [ovl_marks,stS,appL_marks] at hm
              have:=hs.bnd.mks k hm
              omega,fun j' own q hl=>?_⟩,(hnews x hxm k hk).2,hkge⟩
            · simp only [ovl_get]
              cases lookB (gs1.filter fun p=>memN p.1 x.rs) i with
              | some t=>simp [SV.uses,SC.uses,SC.nms,anyMem]
              | none =>
                cases hu:((stS S).e.get i).uses [k] with
                | false=>rfl
                | true =>
                  simp only [stS] at hu
                  rcases app_get_src (l:=selF S 0 log) (p:=(s.e,s.H)) (t:=i) with h1 | ⟨y,hy,h1⟩
                  · rw [h1] at hu
                    have:=hs.bnd.env i k hu
                    omega
                  · rw [h1] at hu
                    exact absurd (nms_sv hu) (hno y hy)
            · simp only [stS] at hl
              rcases app_look_src hl with h1 | ⟨y,hy,h1⟩
              · have:=hs.bnd.heap j' own q h1
                refine⟨by omega, ?_⟩
                cases hu:q.uses [k] with
                | false=>rfl
                | true=>have:=this.2 k hu; omega
              · have h2:=hno y hy
                refine⟨fun he=>h2 (nms_wr h1 (.inl he)), ?_⟩
                cases hu:q.uses [k] with
                | false=>rfl
                | true=>exact absurd (nms_wr h1 (.inr hu)) h2
          · intro ρ' a' w' hsat' _
            refine hgo ρ' a' w' (hsat'.congr (fun i=>?_) (fun k=>?_) rfl (by simp only [stS,appL_marks,putO_marks,ovl_marks]))
            · rw [hnextE i,hent.d,f1]
              cases hd:o.dst with
              | none =>
                simp only [Sx.putO,ovl_get,hd]
                rw [if_neg (by simp)]
                cases hl:lookB (gs1.filter fun p=>memN p.1 x.rs) i with
                | none=>exact .inl rfl
                | some t =>
                  have hm:=List.mem_filter.1 (lookB_mem hl)
                  refine .inr ⟨t, .inl rfl, ?_⟩
                  rw [hslot i (memN_iff.1 hm.2)]
                  exact hgs1 i t hm.1
              | some d =>
                simp only [Sx.putO,hd]
                rw [get_put]
                by_cases hid:i=d
                · rw [if_pos hid,if_pos (by rw [hid])]; exact .inl rfl
                · rw [if_neg hid,if_neg (by simp; exact fun h=>hid h.symm)]
                  simp only [ovl_get]
                  cases hl:lookB (gs1.filter fun p=>memN p.1 x.rs) i with
                  | none=>exact .inl rfl
                  | some t =>
                    have hm:=List.mem_filter.1 (lookB_mem hl)
                    refine .inr ⟨t, .inl rfl, ?_⟩
                    rw [hslot i (memN_iff.1 hm.2)]
                    exact hgs1 i t hm.1
            · rw [hnextH k,f3]
        · have hw:Region.wanted o (yielded ops a.tmps)=false:=by
            rcases hb with hb | hb
            · rw [hguard j' want d (!want) hg hd hdr hb]; cases want <;> rfl
            · have hv:a.tmps.getD d undef=.tuple #[]:=by
                have:=hsat.env d
                rw [hslot d hdr,hb] at this
                exact undef_of this
              simp only [Region.wanted,hg,yielded_undef hd hv]; rfl
          rw [if_neg (by simp [hw])]
          refine⟨fun _ _=>trivial,hgo ρ _ w ((hsat.putO (sv:=.tup []) (v:=undef) hdst undef_rel undef_below).congr (fun i=>?_) (fun k=>?_) rfl (by simp only [stS,appL_marks,putO_marks]))⟩
          · rw [hnextE i,hent.d,f1]
            cases hd:o.dst with
            | none=>simp only [Sx.putO,hd]; rw [if_neg (by simp)]; exact .inl rfl
            | some d =>
              simp only [Sx.putO,hd]
              rw [get_put]
              by_cases hid:i=d
              · rw [if_pos hid,if_pos (by rw [hid])]; exact .inl rfl
              · rw [if_neg hid,if_neg (by simp; exact fun h=>hid h.symm)]; exact .inl rfl
          · rw [hnextH k,f3]; rfl
  have hmixed:=hB.mixed
  refine wpIn_region_any hmixed ?_
  refine key ops.size _ ρ a _ (by simp) (by simp [List.count_replicate]) ?_ ?_
  · intro i o ho hi
    exfalso
    have h0:(Array.replicate ops.size false).getD i false=false:=by
      simp only [Array.getD_eq_getD_getElem?,Array.getElem?_replicate]; split <;> rfl
    have hi:(Array.replicate ops.size false).getD i false=true:=hi
    rw [h0] at hi; cases hi
  · have hsel:selF (fun i=>(Array.replicate ops.size false).getD i false) 0 log=[]:=by
      have:∀ (l:List LogE) k,selF (fun i=>(Array.replicate ops.size false).getD i false) k l=[]:=by
        intro l; induction l with
        | nil=>intro k; rfl
        | cons x l ihl =>
          intro k
          simp only [selF]
          have h0:(Array.replicate ops.size false).getD k false=false:=by
            simp only [Array.getD_eq_getD_getElem?,Array.getElem?_replicate]; split <;> rfl
          rw [if_neg (by rw [h0]; simp),ihl]
      exact this log 0
    simp only [stS,hsel,appL]
    exact (hs.bump hle).eqHeap rfl

end Sx
end Go

namespace Go
namespace Sx

def noGo (Q:Exit → Act → World → Prop):Exit → Act → World → Prop
  | .goto _,_,_=>False
  | e,a,w=>Q e a w

theorem wpIn_scope_straight {F:Fence} {n:Nat} {P:Program} {Q:Exit → Act → World → Prop} {a:Act} {w:World} {c:Code} (h:c.wpIn F n P (noGo Q) a w):(Code.scope c).wpIn F n P Q a w:=by
  intro b k cs hro hb hr
  have h0:(lone (b.atR a (.code (.scope c) :: k)) cs w).fenced P F:=fenced_calm hb hr rfl
  have e1:step P (lone (b.atR a (.code (.scope c) :: k)) cs w)=.next (lone (b.atR a (.code c :: .inScope c :: k)) cs w):=step_lone_go (by simp [stepG,stepG.exec,Frame.atR])
  have e2:∀ (a:Act) (w:World),step P (lone (b.atR a (.inScope c :: k)) cs w)=.next (lone (b.atR a k) cs w):=fun a w=>step_lone_go (by simp [stepG,stepG.exec,Frame.atR])
  obtain ⟨e,a₁,w₁,hq,harr⟩:=h b (.inScope c :: k) cs hro hb hr
  cases e with
  | normal=>exact⟨.normal,a₁,w₁,hq, .head h0 e1 (StepsIn.trans harr (.one (fenced_calm hb hr rfl) (e2 _ _)))⟩
  | exit id =>
    have hx:exitTo id (.inScope c :: k)=exitTo id k:=by simp [exitTo]
    exact⟨.exit id,a₁,w₁,hq,fun k' hk=>.head h0 e1 (harr.1 k' (by rw [hx]; exact hk)),fun hr' hk=>let ⟨k₁,h1,h2⟩:=harr.2 hr' (by rw [hx]; exact hk); ⟨k₁,h1, .head h0 e1 h2⟩⟩
  | goto l=>exact hq.elim
  | ret=>exact⟨_,a₁,w₁,hq, .of_steps (.one h0 e1) harr⟩
  | panic ch=>exact⟨_,a₁,w₁,hq, .of_steps (.one h0 e1) harr⟩
  | outgrown=>exact⟨_,a₁,w₁,hq, .of_steps (.one h0 e1) harr⟩

def isLk:Oper → Bool
  | ⟨_, .lookup ..,_,_,_,_⟩=>true
  | _=>false

def isEn:Oper → Bool
  | ⟨_, .mapEntry ..,_,_,_,_⟩=>true
  | _=>false

def anyOp (f:Oper → Bool):List Oper → Bool
  | []=>false
  | o :: r=>bif f o then true else anyOp f r

def firstEn (ops:Array Oper):Bool:=match ops.toList with
  | ⟨_, .entry _,_,_,_,_⟩ :: _=>true
  | _=>false

def oddR (ops:Array Oper):Bool:=bif anyOp isEn ops.toList then anyOp isLk ops.toList else false

def vc (cx:Cx) (B:Tabs):Code → (Exit → St → Prop) → St → Prop
  | .skip,Q,s=>Q .normal s
  | .label _,Q,s=>Q .normal s
  | .exit id,Q,s=>Q (.exit id) s
  | .goto l,Q,s=>Q (.goto l) s
  | .ret,Q,s=>Q .ret s
  | .region id ops false,Q,s=>bif firstEn ops then Sound cx (.region id ops false) Q s else vcOps cx B ops ops.toList s fun s'=>Q .normal s'
  | .region id ops true,Q,s=>bif oddR ops then Sound cx (.region id ops true) Q s else drawK cx B ops (fun s'=>Q .normal s') s
  | .seq x y,Q,s=>vc cx B x (fun ex s'=>match ex with
    | .normal=>vc cx B y Q s'
    | ex=>Q ex s') s
  | .cond c x y,Q,s=>(match ev s.e c with
    | .c .any=>vc cx B x Q s∧vc cx B y Q s
    | .c (.b true)=>vc cx B x Q s
    | .c (.b false)=>vc cx B y Q s
    | .c (.v (.bool t))=>(t=true → vc cx B x Q s)∧(t=false → vc cx B y Q s)
    | _=>False)
  | .block id b,Q,s=>vc cx B b (fun ex s'=>match ex with
    | .exit id'=>bif Nat.beq id' id then Q .normal s' else Q (.exit id') s'
    | ex=>Q ex s') s
  | .loop b,Q,s=>Sound cx (.loop b) Q s
  | .rangeFunc f ps asg b,Q,s=>Sound cx (.rangeFunc f ps asg b) Q s
  | .scope b,Q,s=>vc cx B b (fun ex s'=>match ex with
    | .goto _=>False
    | ex=>Q ex s') s
  | .refuse _,_,_=>False

theorem vc_sound {cx:Cx} {B:Tabs} (hB:TabsOK cx.P B):∀ (c:Code) (Q:Exit → St → Prop) (s:St),vc cx B c Q s → Sound cx c Q s
  | .skip,Q,s,h=>⟨fun ρ a w hs QQ hQ=>wpIn_skip (hQ _ _ _ _ _ h hs)⟩
  | .label _,Q,s,h=>⟨fun ρ a w hs QQ hQ=>wpIn_label (hQ _ _ _ _ _ h hs)⟩
  | .exit id,Q,s,h=>⟨fun ρ a w hs QQ hQ=>wpIn_exit (hQ _ _ _ _ _ h hs)⟩
  | .goto l,Q,s,h=>⟨fun ρ a w hs QQ hQ=>wpIn_goto (hQ _ _ _ _ _ h hs)⟩
  | .ret,Q,s,h=>⟨fun ρ a w hs QQ hQ=>wpIn_ret (hQ _ _ _ _ _ h hs)⟩
  | .region id ops false,Q,s,h=>by
    unfold vc at h
    cases ho:firstEn ops with
    | true=>rw [ho] at h; exact h
    | false =>
      rw [ho] at h
      have h:vcOps cx B ops ops.toList s (fun s'=>Q .normal s'):=h
      exact⟨fun ρ a w hs QQ hQ=>wpIn_region (by
        have:=vcOps_sound hB (Q:=QQ) (fun ρ' s' a' w' h1 h2=>hQ _ _ _ _ _ h1 h2) ops.toList 0 (by simp) s ρ a w h hs
        rw [List.range_eq_range']; simpa using this)⟩
  | .region id ops true,Q,s,h=>by
    unfold vc at h
    cases ho:oddR ops with
    | true=>rw [ho] at h; exact h
    | false=>rw [ho] at h; exact draw_sound hB h
  | .seq x y,Q,s,h=>⟨fun ρ a w hs QQ hQ=>wpIn_seq ((vc_sound hB x _ s h).h ρ a w hs _ fun ex s' ρ' a' w' h1 h2=>by
      cases ex with
      | normal=>exact (vc_sound hB y Q s' h1).h ρ' a' w' h2 QQ hQ
      | _=>exact hQ _ _ _ _ _ h1 h2)⟩
  | .cond c x y,Q,s,h=>⟨fun ρ a w hs QQ hQ=>by
      have hc:(ev s.e c).rel ρ (a.eval c):=ev_rel fun t _=>hs.env t
      simp only [vc] at h
      split at h
      · rename_i he
        rw [he] at hc
        obtain ⟨t,ht⟩:=hc
        exact wpIn_cond_split ht (fun _=>(vc_sound hB x Q s h.1).h ρ a w hs QQ hQ) (fun _=>(vc_sound hB y Q s h.2).h ρ a w hs QQ hQ)
      · rename_i he; rw [he] at hc; exact wpIn_cond_true hc ((vc_sound hB x Q s h).h ρ a w hs QQ hQ)
      · rename_i he; rw [he] at hc; exact wpIn_cond_false hc ((vc_sound hB y Q s h).h ρ a w hs QQ hQ)
      · rename_i t he
        rw [he] at hc
        exact wpIn_cond_split hc (fun ht=>(vc_sound hB x Q s (h.1 ht)).h ρ a w hs QQ hQ) (fun ht=>(vc_sound hB y Q s (h.2 ht)).h ρ a w hs QQ hQ)
      · exact h.elim⟩
  | .block id b,Q,s,h=>⟨fun ρ a w hs QQ hQ=>wpIn_block ((vc_sound hB b _ s h).h ρ a w hs _ fun ex s' ρ' a' w' h1 h2=>by
      cases ex with
      | exit id' =>
        simp only [Exit.inBlock]
        cases hb:Nat.beq id' id with
        | true=>simp only [hb,cond_true] at h1; rw [if_pos (Nat.eq_of_beq_eq_true hb)]; exact hQ _ _ _ _ _ h1 h2
        | false=>simp only [hb,cond_false] at h1; rw [if_neg (Nat.ne_of_beq_eq_false hb)]; exact hQ _ _ _ _ _ h1 h2
      | _=>exact hQ _ _ _ _ _ h1 h2)⟩
  | .loop b,Q,s,h=>h
  | .rangeFunc f ps asg b,Q,s,h=>h
  | .scope b,Q,s,h=>⟨fun ρ a w hs QQ hQ=>wpIn_scope_straight ((vc_sound hB b _ s h).h ρ a w hs _ fun ex s' ρ' a' w' h1 h2=>by
      cases ex with
      | goto l=>exact h1.elim
      | _=>exact hQ _ _ _ _ _ h1 h2)⟩
  | .refuse _,_,_,h=>h.elim

end Sx
end Go

namespace Go
namespace Sx

def SC.ren (σ:Nat → Nat):SC → SC
  | .v x=>.v x
  | .b x=>.b x
  | .p k i sz off=>.p (σ k) i sz off
  | .s k st len sz=>.s (σ k) st len sz
  | .f g caps=>.f g (caps.map σ)
  | .m k=>.m (σ k)
  | .cut k h sz=>.cut (σ k) h sz
  | .ghost k i=>.ghost (σ k) i
  | .gp k i=>.gp (σ k) i
  | .any=>.any
  | .junk=>.junk

def renL (σ:Nat → Nat):List SC → List SC
  | []=>[]
  | c :: l=>c.ren σ :: renL σ l

def renT (σ:Nat → Nat):List (Sum SC (List SC)) → List (Sum SC (List SC))
  | []=>[]
  | .inl c :: l=>.inl (c.ren σ) :: renT σ l
  | .inr cs :: l=>.inr (renL σ cs) :: renT σ l

def SV.ren (σ:Nat → Nat):SV → SV
  | .c x=>.c (x.ren σ)
  | .agg l=>.agg (renL σ l)
  | .tup l=>.tup (renT σ l)
  | .pk vs l=>.pk vs (renL σ l)

theorem renL_eq (σ:Nat → Nat) (l:List SC):renL σ l=l.map (SC.ren σ):=by
  induction l with
  | nil=>rfl
  | cons c l ih=>simp [renL,ih]

theorem SC.ren_nms (σ:Nat → Nat) (c:SC):(c.ren σ).nms=c.nms.map σ:=by cases c <;> simp [SC.ren,SC.nms]

theorem arr_cell? (A:Arr) (i j:Nat):(SO.arr A).cell? i j=(A.xs[i]?).bind fun x=>(A.enc x)[j]?:=by
  simp only [SO.cell?]; cases A.xs[i]? <;> rfl

def Arr.ren (σ:Nat → Nat) (a:Arr):Arr :=
  { α:=a.α,sz:=a.sz,enc:=fun x=>renL σ (a.enc x),nm:=a.nm.map σ,hl:=fun x=>by rw [renL_eq,List.length_map,a.hl],
    hn:=fun x c hc k hk=>by
      rw [renL_eq] at hc
      obtain ⟨d,hd,rfl⟩:=List.mem_map.1 hc
      rw [SC.ren_nms] at hk
      obtain ⟨j,hj,rfl⟩:=List.mem_map.1 hk
      exact List.mem_map.2 ⟨j,a.hn x d hd j hj,rfl⟩
    xs:=a.xs,fx:=a.fx,ty:=a.ty }

def SO.ren (σ:Nat → Nat):SO → SO
  | .cel ty l=>.cel ty (renL σ l)
  | .arr a=>match a.nm with
    | []=>.arr a
    | _ :: _=>.arr (a.ren σ)
  | .raw Φ=>.raw Φ
  | .box b=>.box b

theorem SC.ren_none {σ:Nat → Nat} {c:SC} (h:c.nms=[]):c.ren σ=c:=by
  cases c <;> simp_all [SC.ren,SC.nms]

theorem enc_ren {σ:Nat → Nat} {a:Arr} (h:a.nm=[]) (x:a.α):renL σ (a.enc x)=a.enc x:=by
  rw [renL_eq]
  conv=>rhs; rw [← List.map_id (a.enc x)]
  apply List.map_congr_left
  intro c hc
  refine SC.ren_none (List.eq_nil_iff_forall_not_mem.2 fun k hk=>?_)
  have:=a.hn x c hc k hk
  rw [h] at this; cases this

def renH (σ:Nat → Nat):Heap → Heap
  | []=>[]
  | (k,own,o) :: r=>(σ k,own,o.ren σ) :: renH σ r

theorem SC.ren_rel {ρ:Asg} {σ:Nat → Nat} {c:SC} {v:Value}:(c.ren σ).rel ρ v ↔ c.rel (fun k=>ρ (σ k)) v:=by
  cases c <;> simp [SC.ren,SC.rel,adr]
  rename_i g caps
  have:(caps.map ((fun k=>Value.pointer (some ⟨(ρ k).blk,(ρ k).off,none⟩)) ∘ σ))=caps.map fun k=>Value.pointer (some ⟨(ρ (σ k)).blk,(ρ (σ k)).off,none⟩):=rfl
  rw [this]

theorem renL_rel {ρ:Asg} {σ:Nat → Nat}:∀ {l:List SC} {vs:List Value},relL ρ (renL σ l) vs ↔ relL (fun k=>ρ (σ k)) l vs
  | [],[]=>Iff.rfl
  | [],_ :: _=>Iff.rfl
  | _ :: _,[]=>Iff.rfl
  | _ :: _,_ :: _=>by simp only [renL,relL,SC.ren_rel,renL_rel]

theorem renT_rel {ρ:Asg} {σ:Nat → Nat}:∀ {l:List (Sum SC (List SC))} {vs:List Value},relT ρ (renT σ l) vs ↔ relT (fun k=>ρ (σ k)) l vs
  | [],[]=>Iff.rfl
  | [],_ :: _=>Iff.rfl
  | .inl _ :: _,[]=>Iff.rfl
  | .inr _ :: _,[]=>Iff.rfl
  | .inl _ :: _,_ :: _=>by simp only [renT,relT,SC.ren_rel,renT_rel]
  | .inr _ :: _,_ :: _=>by simp only [renT,relT,renL_rel,renT_rel]

theorem SV.ren_rel {ρ:Asg} {σ:Nat → Nat} {s:SV} {v:Value}:(s.ren σ).rel ρ v ↔ s.rel (fun k=>ρ (σ k)) v:=by
  cases s <;> simp only [SV.ren,SV.rel,SC.ren_rel,renL_rel,renT_rel]

theorem renL_get {σ:Nat → Nat} {l:List SC} {j:Nat}:(renL σ l)[j]? = (l[j]?).map (SC.ren σ):=by rw [renL_eq,List.getElem?_map]

theorem SO.ren_arr {σ:Nat → Nat} {a:Arr}:(SO.arr a).ren σ=.arr a∧a.nm=[] ∨ (SO.arr a).ren σ=.arr (a.ren σ):=by
  simp only [SO.ren]
  cases h:a.nm with
  | nil=>exact .inl ⟨rfl,rfl⟩
  | cons x r=>exact .inr rfl

theorem SO.ren_cell {σ:Nat → Nat} {o:SO} {i j:Nat}:(o.ren σ).cell? i j=(o.cell? i j).map (SC.ren σ):=by
  cases o with
  | cel ty l=>cases i <;> simp [SO.ren,SO.cell?,renL_get]
  | arr a =>
    rcases @SO.ren_arr σ a with ⟨h,hn⟩ | h
    · rw [h]
      simp only [SO.cell?]
      cases a.xs[i]? with
      | none=>rfl
      | some x =>
        simp only
        conv=>lhs; rw [← enc_ren (σ:=σ) hn x]
        exact renL_get
    · rw [h]
      rw [arr_cell?,arr_cell?]
      show (a.xs[i]?).bind (fun x=>(renL σ (a.enc x))[j]?)=_
      cases a.xs[i]? with
      | none=>rfl
      | some x=>exact renL_get
  | raw l=>rfl
  | box l=>rfl

theorem SO.ren_sz {σ:Nat → Nat} {o:SO}:(o.ren σ).sz=o.sz:=by
  cases o with
  | arr a=>rcases @SO.ren_arr σ a with ⟨h,hn⟩ | h <;> rw [h] <;> rfl
  | _=>rfl
theorem SO.ren_room {σ:Nat → Nat} {o:SO} {r:Rg}:(o.ren σ).room r=o.room r:=by
  cases o with
  | arr a=>rcases @SO.ren_arr σ a with ⟨h,hn⟩ | h <;> rw [h] <;> rfl
  | _=>simp [SO.ren,SO.room,renL_eq]
theorem SO.ren_wf {σ:Nat → Nat} {o:SO} {r:Rg}:(o.ren σ).wf r ↔ o.wf r:=by
  cases o with
  | arr a=>rcases @SO.ren_arr σ a with ⟨h,hn⟩ | h <;> rw [h] <;> exact Iff.rfl
  | _=>exact Iff.rfl
theorem SO.ren_raw {σ:Nat → Nat} {o:SO} {l:Obj → Prop}:o.ren σ=.raw l ↔ o=.raw l:=by
  cases o with
  | arr a=>rcases @SO.ren_arr σ a with ⟨h,hn⟩ | h <;> rw [h] <;> simp
  | _=>simp [SO.ren]

theorem SO.ren_box {σ:Nat → Nat} {o:SO} {l:Bx}:o.ren σ=.box l ↔ o=.box l:=by
  cases o with
  | arr a=>rcases @SO.ren_arr σ a with ⟨h,hn⟩ | h <;> rw [h] <;> simp
  | _=>simp [SO.ren]
theorem SO.ren_fp {σ:Nat → Nat} {o:SO} {r:Rg}:(o.ren σ).fp r=o.fp r:=by
  cases o with
  | arr a=>rcases @SO.ren_arr σ a with ⟨h,hn⟩ | h <;> rw [h] <;> rfl
  | _=>rfl

theorem SO.ren_fx {σ:Nat → Nat} {o:SO}:(o.ren σ).fx=o.fx:=by
  cases o with
  | arr a=>rcases @SO.ren_arr σ a with ⟨h,_⟩ | h <;> rw [h] <;> rfl
  | _=>rfl

theorem SO.ren_ty {σ:Nat → Nat} {o:SO}:(o.ren σ).ty=o.ty:=by
  cases o with
  | arr a=>rcases @SO.ren_arr σ a with ⟨h,_⟩ | h <;> rw [h] <;> rfl
  | _=>rfl

theorem SatO.of_ren {ρ:Asg} {σ:Nat → Nat} {w:World} {k:Nat} {own:Bool} {o:SO} (h:SatO ρ w (σ k) own (o.ren σ)):SatO (fun k=>ρ (σ k)) w k own o where
  wf:=SO.ren_wf.1 h.wf
  at_ i j c hc:=by
    obtain ⟨v,hv,hr⟩:=h.at_ i j (c.ren σ) (by rw [SO.ren_cell,hc]; rfl)
    rw [SO.ren_sz] at hv
    exact⟨v,hv,SC.ren_rel.1 hr⟩
  room ho hm hx n hn:=h.room ho (fun keys hk=>hm keys (SO.ren_raw.1 hk)) (fun b hk=>hx b (SO.ren_box.1 hk)) n (by rw [SO.ren_room]; exact hn)
  off0:=h.off0
  keys l hl:=h.keys l (SO.ren_raw.2 hl)
  boxed l hl:=h.boxed l (SO.ren_box.2 hl)
  fixd n hn:=h.fixd n (by rw [SO.ren_fx]; exact hn)
  typd t ht hr:=h.typd t (by rw [SO.ren_ty]; exact ht) (by rw [SO.ren_room]; exact hr)

theorem SatO.to_ren {ρ:Asg} {σ:Nat → Nat} {w:World} {k:Nat} {own:Bool} {o:SO} (h:SatO (fun k=>ρ (σ k)) w k own o):SatO ρ w (σ k) own (o.ren σ) where
  wf:=SO.ren_wf.2 h.wf
  at_ i j c hc:=by
    rw [SO.ren_cell] at hc
    cases hd:o.cell? i j with
    | none=>simp [hd] at hc
    | some d =>
      simp [hd] at hc
      subst hc
      obtain ⟨v,hv,hr⟩:=h.at_ i j d hd
      exact⟨v,by rw [SO.ren_sz]; exact hv,SC.ren_rel.2 hr⟩
  room ho hm hx n hn:=h.room ho (fun keys hk=>hm keys (SO.ren_raw.2 hk)) (fun b hk=>hx b (SO.ren_box.2 hk)) n (by rw [SO.ren_room] at hn; exact hn)
  off0:=h.off0
  keys l hl:=h.keys l (SO.ren_raw.1 hl)
  boxed l hl:=h.boxed l (SO.ren_box.1 hl)
  fixd n hn:=h.fixd n (by rw [SO.ren_fx] at hn; exact hn)
  typd t ht hr:=h.typd t (by rw [SO.ren_ty] at ht; exact ht) (by rw [SO.ren_room] at hr; exact hr)

theorem SatO.less {ρ:Asg} {w:World} {k:Nat} {o:SO} (h:SatO ρ w k true o) (own:Bool):SatO ρ w k own o where
  wf:=h.wf
  at_:=h.at_
  room _:=h.room rfl
  off0 _:=h.off0 rfl
  keys:=h.keys
  boxed:=h.boxed
  fixd:=h.fixd
  typd:=h.typd

def relVs (ρ:Asg):List SV → List Value → Prop
  | [],[]=>True
  | s :: l,v :: vs=>s.rel ρ v∧relVs ρ l vs
  | _,_=>False

def ownB (ρ:Asg):Heap → List Nat
  | []=>[]
  | (k,own,o) :: r=>(bif own && Nat.blt 0 (o.room (ρ k)) then o.fp (ρ k) else []) ++ ownB ρ r

structure Triple (P:Program) (f:FuncId) (args:List SV) (pre:Heap) (np:Nat) (r:SV) (post:Heap):Prop where
  enter:∀ args w,(callFunc f args).run P w=.ok (.enter f args) w
  h:∀ (ρ:Asg) (w:World) (vals:Array Value),relVs ρ args vals.toList → SatH w (ownB ρ pre) ρ pre w →
    Calls P f vals w fun e w'=>∃ ρ' v,(∀ k,k < np → ρ' k=ρ k)∧e=.returned v∧r.rel ρ' v∧SatH w (ownB ρ pre) ρ' post w'

def toSum:SV → Sum SC (List SC)
  | .c x=>.inl x
  | .agg l=>.inr l
  | .tup _=>.inl .junk
  | .pk _ _=>.inl .junk

def packR:List SV → SV
  | [x]=>x
  | l=>.tup (l.map toSum)

def resK (B:Tabs) (s:St):List ResultVar → (List SV → Prop) → Prop
  | [],K=>K []
  | .tmp t :: r,K=>resK B s r fun l=>K (s.e.get t :: l)
  | .cell a t :: r,K=>match s.e.get a,lookT B.T t with
    | .c (.p k 0 _ 0),some ti=>(match look s.H k with
      | some (_, .cel _ l)=>loadL ti l 0 [] fun sv _=>resK B s r fun l=>K (sv :: l)
      | some (_, .arr A)=>∃ vs:List Value,((∀ j v,vs[j]? = some v → ∃ i' j',i' * A.sz+j'=j∧(SO.arr A).cell? i' j'=some (.v v))∧vs.length=ti.size∧ti.kd.isAgg=true)∧resK B s r fun l=>K (.c (.v (.agg vs.toArray)) :: l)
      | _=>False)
    | _,_=>False

theorem toSum_rel {ρ:Asg} {s:SV} {v:Value} {l:List (Sum SC (List SC))} {vs:List Value} (h:s.rel ρ v) (hl:relT ρ l vs):relT ρ (toSum s :: l) (v :: vs):=by
  cases s with
  | c x=>exact⟨h,hl⟩
  | agg l=>exact⟨h,hl⟩
  | tup l=>exact⟨trivial,hl⟩
  | pk _ l=>exact⟨trivial,hl⟩

theorem relT_of_relVs {ρ:Asg}:∀ {l:List SV} {vs:List Value},relVs ρ l vs → relT ρ (l.map toSum) vs
  | [],[],_=>trivial
  | [],_ :: _,h=>h.elim
  | _ :: _,[],h=>h.elim
  | _ :: _,_ :: _,h=>toSum_rel h.1 (relT_of_relVs h.2)

theorem relVs_length {ρ:Asg}:∀ {l:List SV} {vs:List Value},relVs ρ l vs → l.length=vs.length
  | [],[],_=>rfl
  | [],_ :: _,h=>h.elim
  | _ :: _,[],h=>h.elim
  | _ :: _,_ :: _,h=>by simp [relVs_length h.2]

def resRun (tmps:Array Value):ResultVar → Sem Value
  | .tmp t=>pure (tmps.getD t undef)
  | .cell p t=>do loadVar t (← asAddr (tmps.getD p undef))

theorem results_eq (fn:Func) (tmps:Array Value):results fn tmps=(do
    let vs ← fn.results.mapM (resRun tmps)
    pure (if h:vs.size=1 then vs[0] else .tuple vs)):=by
  unfold results
  congr 1

theorem res_ok {cx:Cx} {B:Tabs} (hB:TabsOK cx.P B) {s:St}:∀ (rs:List ResultVar) (K:List SV → Prop),resK B s rs K →
    ∃ l,K l∧∀ (ρ:Asg) (a:Act) (w:World),Sat cx ρ s a w → ∃ vs,(rs.mapM (resRun a.tmps)).run cx.P w=.ok vs w∧relVs ρ l vs∧∀ sv ∈ l,sv.below s.nx
  | [],K,h=>⟨[],h,fun ρ a w _=>⟨[],by simp,trivial,by simp⟩⟩
  | .tmp t :: r,K,h=>by
    obtain ⟨l,hK,hl⟩:=res_ok hB r _ h
    refine⟨_,hK,fun ρ a w hs=>?_⟩
    obtain ⟨vs,hvs,hr,hbl⟩:=hl ρ a w hs
    exact⟨a.tmps.getD t undef :: vs,by simp only [List.mapM_cons,Sem.run_bind,resRun,Sem.run_pure,Result.andThen_ok,hvs],⟨hs.env t,hr⟩,fun sv hsv=>by
      rcases List.mem_cons.1 hsv with rfl | hsv
      · exact hs.bnd.env t
      · exact hbl sv hsv⟩
  | .cell p t :: r,K,h=>by
    simp only [resK] at h
    split at h
    · rename_i k sz ti he ht
      split at h
      · rename_i own tyc cs hl
        obtain ⟨sv,hK,hbs,hrun⟩:=loadL_ok hB ht h
        obtain ⟨l,hK,hl'⟩:=res_ok hB r _ hK
        refine⟨_,hK,fun ρ a w hs=>?_⟩
        obtain ⟨vs,hvs,hr,hbl⟩:=hl' ρ a w hs
        have h1:=hs.env p
        rw [he] at h1; simp only [SV.rel,SC.rel,Nat.zero_mul,Nat.zero_add] at h1
        obtain ⟨v,hv,hrel⟩:=hrun ρ k 0 w (fun j c hc=>by
          have:=(hs.heap.reg k own _ hl).at_ 0 j c (by simpa [SO.cell?] using hc)
          simpa [SO.sz] using this)
        simp only [Nat.add_zero] at hv
        exact⟨v :: vs,by simp only [List.mapM_cons,Sem.run_bind,resRun,h1,asAddr,Sem.run_pure,Result.andThen_ok,hv,hvs],⟨hrel,hr⟩,fun sv' hsv=>by
          rcases List.mem_cons.1 hsv with rfl | hsv
          · refine hbs s.nx fun c hc k hk=>(hs.bnd.heap _ _ _ hl).2 k ?_
            exact usesL_iff.2 ⟨c,hc,SC.uses_iff.2 ⟨k,hk,by simp⟩⟩
          · exact hbl sv' hsv⟩
      · rename_i own A hl
        obtain ⟨us,⟨hcs,hn,hag⟩,h⟩:=h
        obtain ⟨l,hK,hl'⟩:=res_ok hB r _ h
        refine⟨_,hK,fun ρ a w hs=>?_⟩
        obtain ⟨vs,hvs,hr,hbl⟩:=hl' ρ a w hs
        have h1:=hs.env p
        rw [he] at h1; simp only [SV.rel,SC.rel,Nat.zero_mul,Nat.zero_add] at h1
        have hload:=run_loadCells (P:=cx.P) (w:=w) (a:=adr ρ k 0) (vs:=us) (fun j v hv=>by
          obtain ⟨i',j',hj,hc⟩:=hcs j v hv
          obtain ⟨v',hv',hrel⟩:=(hs.heap.reg k own _ hl).at_ i' j' _ hc
          have hrel:v'=v:=hrel
          rw [adr_add,Nat.zero_add,← hj]
          rw [← hrel]; exact hv')
        have hsize:=run_sizeOf hB ht w
        have hagg:=run_isAgg w (hB.T.get ht)
        rw [hag] at hagg
        rw [hn] at hload
        have hv:(loadVar t (adr ρ k 0)).run cx.P w=.ok (.agg us.toArray) w:=by simp [loadVar,hagg,hsize,hload]
        exact⟨.agg us.toArray :: vs,by simp only [List.mapM_cons,Sem.run_bind,resRun,h1,asAddr,Sem.run_pure,Result.andThen_ok,hv,hvs],⟨rfl,hr⟩,fun sv' hsv=>by
          rcases List.mem_cons.1 hsv with rfl | hsv
          · exact below_lit s.nx _
          · exact hbl sv' hsv⟩
      · exact h.elim
    · exact h.elim

theorem packR_below {l:List SV} {n:Nat} (h:∀ sv ∈ l,sv.below n):(packR l).below n:=by
  have key:∀ l:List SV,(∀ sv ∈ l,sv.below n) → (SV.tup (l.map toSum)).below n:=by
    intro l h k hk
    obtain ⟨x,hx,hu⟩:=usesT_iff.1 hk
    obtain ⟨sv,hsv,rfl⟩:=List.mem_map.1 hx
    refine h sv hsv k ?_
    cases sv with
    | c y=>simpa [toSum,SV.uses] using hu
    | agg y=>simpa [toSum,SV.uses] using hu
    | tup y=>simp [toSum,SC.uses,SC.nms,anyMem] at hu
    | pk _ y=>simp [toSum,SC.uses,SC.nms,anyMem] at hu
  unfold packR
  split
  · exact h _ (by simp)
  · exact key l h

theorem results_run {cx:Cx} {B:Tabs} (hB:TabsOK cx.P B) {s:St} {fn:Func} {K:SV → Prop} (h:resK B s fn.results.toList fun l=>K (packR l)) :
    ∃ r,K r∧∀ (ρ:Asg) (a:Act) (w:World),Sat cx ρ s a w → ∃ v,(results fn a.tmps).run cx.P w=.ok v w∧r.rel ρ v∧r.below s.nx:=by
  obtain ⟨l,hK,hl⟩:=res_ok hB _ _ h
  refine⟨_,hK,fun ρ a w hs=>?_⟩
  obtain ⟨vs,hvs,hr,hbl⟩:=hl ρ a w hs
  have hrun:(fn.results.mapM (resRun a.tmps)).run cx.P w=.ok vs.toArray w:=by
    rw [Array.mapM_eq_mapM_toList]
    simp only [Sem.run_map,hvs,Result.andThen_ok]
  refine⟨if h:vs.toArray.size=1 then vs.toArray[0] else .tuple vs.toArray, ?_, ?_, ?_⟩
  · rw [results_eq]
    simp only [Sem.run_bind,hrun,Result.andThen_ok,Sem.run_pure]
  · have hlen:=relVs_length hr
    match l,vs,hr,hlen with
    | [],[],_,_=>exact⟨#[],by simp,trivial⟩
    | [x],[v],hr,_=>simpa [packR] using hr.1
    | x :: y :: l,v :: u :: vs,hr,_ =>
      simp only [packR]
      exact⟨(v :: u :: vs).toArray,by simp,by simpa using relT_of_relVs hr⟩
  · exact packR_below hbl

end Sx
end Go

