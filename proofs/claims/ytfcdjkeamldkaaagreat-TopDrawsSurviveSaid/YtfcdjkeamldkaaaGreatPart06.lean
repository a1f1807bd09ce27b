/-
  A part of the proof that a law answers true: lemmas of a symbolic walk, plain functions, or contracts of the functions walked (Sx16). Conditions: none.
-/
import Derived.Test.YtfcdjkeamldkaaaGreatPart05
set_option maxRecDepth 100000
set_option linter.unusedVariables false
set_option linter.unusedSimpArgs false
namespace Go
namespace Sx

def entV (x y:Value):Prop:=match x,y with
  | .int k a, .int k' b=>bif ikEq k k' then a=b else False
  | .bool a, .bool b=>a=b
  | x,y=>x=y

def eqNs:List Nat → List Nat → Bool
  | [],[]=>true
  | a :: l,b :: l'=>bif Nat.beq a b then eqNs l l' else false
  | _,_=>false

def entC (nl:List Nat) (a b:SC):Prop:=match b with
  | .junk=>True
  | .any=>(match a with
    | .any=>True
    | .b _=>True
    | .v (.bool _)=>True
    | _=>False)
  | .v y=>(match a with
    | .v x=>entV x y
    | .b x=>(match y with
      | .bool t=>x=t
      | _=>False)
    | _=>False)
  | .b y=>(match a with
    | .b x=>x=y
    | .v (.bool x)=>x=y
    | _=>False)
  | .p k i sz off=>(match a with
    | .p k' i' sz' off'=>bif Nat.beq k' k && (Nat.beq sz' sz && Nat.beq off' off) then i'=i else False
    | _=>False)
  | .s k st len sz=>(match a with
    | .s k' st' len' sz'=>bif Nat.beq k' k && Nat.beq sz' sz then st'=st∧len'=len else False
    | .v (.slice none n c)=>bif memN k nl then (n=0∧c=0)∧st=0∧len=0 else False
    | _=>False)
  | .f g caps=>(match a with
    | .f g' caps'=>bif Nat.beq g' g && eqNs caps' caps then True else False
    | _=>False)
  | .m k=>(match a with
    | .m k'=>bif Nat.beq k' k then True else False
    | _=>False)
  | .cut _ _ _=>False
  | .ghost k i=>(match a with
    | .ghost k' i'=>bif Nat.beq k' k then i'=i else False
    | _=>False)
  | .gp k i=>(match a with
    | .gp k' i'=>bif Nat.beq k' k then i'=i else False
    | _=>False)

def entL (nl:List Nat):List SC → List SC → Prop
  | [],[]=>True
  | a :: l,b :: l'=>entC nl a b∧entL nl l l'
  | _,_=>False

def entT (nl:List Nat):List (Sum SC (List SC)) → List (Sum SC (List SC)) → Prop
  | [],[]=>True
  | .inl a :: l, .inl b :: l'=>entC nl a b∧entT nl l l'
  | .inr a :: l, .inr b :: l'=>entL nl a b∧entT nl l l'
  | _,_=>False

def entSV (nl:List Nat) (a b:SV):Prop:=match a,b with
  | .c x, .c y=>entC nl x y
  | .agg l, .agg l'=>entL nl l l'
  | .tup l, .tup l'=>entT nl l l'
  | .pk vs l, .pk vs' l'=>vs=vs'∧entL nl l l'
  | .agg _, .c .junk=>True
  | .tup _, .c .junk=>True
  | _,_=>False

def entO (nl:List Nat) (a b:SO):Prop:=match a,b with
  | .cel ty l, .cel ty' l'=>(match ty' with
    | none=>entL nl l l'
    | some t=>ty=some t∧entL nl l l')
  | .arr A, .arr A'=>A=A'
  | .raw l, .raw l'=>l=l'
  | .box l, .box l'=>l=l'
  | _,_=>False

theorem entV_eq {x y:Value} (h:entV x y):x=y:=by
  unfold entV at h
  split at h
  · rename_i k a k' b
    cases hk:ikEq k k' with
    | false=>simp [hk] at h
    | true=>simp [hk] at h; rw [ikEq_eq hk,h]
  · rw [h]
  · exact h

theorem eqNs_eq:∀ {a b:List Nat},eqNs a b=true → a=b
  | [],[],_=>rfl
  | [],_ :: _,h=>by simp [eqNs] at h
  | _ :: _,[],h=>by simp [eqNs] at h
  | x :: l,y :: l',h=>by
    simp only [eqNs] at h
    cases hb:Nat.beq x y with
    | false=>simp [hb] at h
    | true=>simp [hb] at h; rw [Nat.eq_of_beq_eq_true hb,eqNs_eq h]

theorem entC_eq {nl:List Nat} {a b:SC} (h:entC nl a b):b=.junk ∨ (b=.any∧(a=.any ∨ ∃ t,a=.b t ∨ a=.v (.bool t))) ∨ a=b ∨ (∃ t,a=.b t∧b=.v (.bool t)) ∨ (∃ t,a=.v (.bool t)∧b=.b t) ∨ (∃ k sz,a=.v (.slice none 0 0)∧b=.s k 0 0 sz∧k ∈ nl):=by
  unfold entC at h
  split at h
  · exact .inl rfl
  · split at h
    · exact .inr (.inl ⟨rfl, .inl rfl⟩)
    · exact .inr (.inl ⟨rfl, .inr ⟨_, .inl rfl⟩⟩)
    · exact .inr (.inl ⟨rfl, .inr ⟨_, .inr rfl⟩⟩)
    · exact h.elim
  · split at h
    · rw [entV_eq h]; exact .inr (.inr (.inl rfl))
    · split at h
      · subst h; exact .inr (.inr (.inr (.inl ⟨_,rfl,rfl⟩)))
      · exact h.elim
    · exact h.elim
  · split at h
    · subst h; exact .inr (.inr (.inl rfl))
    · subst h; exact .inr (.inr (.inr (.inr (.inl ⟨_,rfl,rfl⟩))))
    · exact h.elim
  · rename_i k i sz off
    split at h
    · rename_i k' i' sz' off'
      cases hb:Nat.beq k' k && (Nat.beq sz' sz && Nat.beq off' off) with
      | false=>simp [hb] at h
      | true =>
        simp only [hb,cond_true] at h
        simp only [Bool.and_eq_true] at hb
        rw [Nat.eq_of_beq_eq_true hb.1,Nat.eq_of_beq_eq_true hb.2.1,Nat.eq_of_beq_eq_true hb.2.2,h]
        exact .inr (.inr (.inl rfl))
    · exact h.elim
  · rename_i k st len sz
    split at h
    · rename_i k' st' len' sz'
      cases hb:Nat.beq k' k && Nat.beq sz' sz with
      | false=>simp [hb] at h
      | true =>
        simp only [hb,cond_true] at h
        simp only [Bool.and_eq_true] at hb
        rw [Nat.eq_of_beq_eq_true hb.1,Nat.eq_of_beq_eq_true hb.2,h.1,h.2]
        exact .inr (.inr (.inl rfl))
    · rename_i n c
      cases hb:memN k nl with
      | false=>simp [hb] at h
      | true =>
        simp only [hb,cond_true] at h
        obtain ⟨⟨rfl,rfl⟩,rfl,rfl⟩:=h
        exact .inr (.inr (.inr (.inr (.inr ⟨k,sz,rfl,rfl,memN_iff.1 hb⟩))))
    · exact h.elim
  · rename_i g caps
    split at h
    · rename_i g' caps'
      cases hb:Nat.beq g' g && eqNs caps' caps with
      | false=>simp [hb] at h
      | true =>
        simp only [Bool.and_eq_true] at hb
        rw [Nat.eq_of_beq_eq_true hb.1,eqNs_eq hb.2]
        exact .inr (.inr (.inl rfl))
    · exact h.elim
  · rename_i k
    split at h
    · rename_i k'
      cases hb:Nat.beq k' k with
      | false=>simp [hb] at h
      | true=>rw [Nat.eq_of_beq_eq_true hb]; exact .inr (.inr (.inl rfl))
    · exact h.elim
  · exact h.elim
  · rename_i k i
    split at h
    · rename_i k' i'
      cases hb:Nat.beq k' k with
      | false=>simp [hb] at h
      | true =>
        simp only [hb,cond_true] at h
        rw [Nat.eq_of_beq_eq_true hb,h]; exact .inr (.inr (.inl rfl))
    · exact h.elim
  · rename_i k i
    split at h
    · rename_i k' i'
      cases hb:Nat.beq k' k with
      | false=>simp [hb] at h
      | true =>
        simp only [hb,cond_true] at h
        rw [Nat.eq_of_beq_eq_true hb,h]; exact .inr (.inr (.inl rfl))
    · exact h.elim

def NilN (ρ:Asg) (nl:List Nat):Prop:=∀ k ∈ nl,(ρ k).cap=0

theorem entC_rel {nl:List Nat} {ρ:Asg} {a b:SC} {v:Value} (hn:NilN ρ nl) (h:entC nl a b) (hr:a.rel ρ v):b.rel ρ v:=by
  rcases entC_eq h with rfl | ⟨rfl,hany⟩ | rfl | ⟨t,rfl,rfl⟩ | ⟨t,rfl,rfl⟩ | ⟨k,sz,rfl,rfl,hk⟩
  · trivial
  · rcases hany with rfl | ⟨t,rfl | rfl⟩
    · exact hr
    · exact⟨t,hr⟩
    · exact⟨t,hr⟩
  · exact hr
  · exact hr
  · exact hr
  · simp only [SC.rel] at hr ⊢
    have:=hn k hk
    exact⟨none,by rw [hr,this],by omega,by omega⟩

theorem entL_rel {nl:List Nat} {ρ:Asg} (hn:NilN ρ nl):∀ {l l':List SC} {vs:List Value},entL nl l l' → relL ρ l vs → relL ρ l' vs
  | [],[],_,_,h=>h
  | [],_ :: _,_,h,_=>h.elim
  | _ :: _,[],_,h,_=>h.elim
  | a :: l,b :: l',[],_,h=>h.elim
  | a :: l,b :: l',v :: vs,h,hr=>⟨entC_rel hn h.1 hr.1,entL_rel hn h.2 hr.2⟩

theorem entL_length {nl:List Nat}:∀ {l l':List SC},entL nl l l' → l.length=l'.length
  | [],[],_=>rfl
  | [],_ :: _,h=>h.elim
  | _ :: _,[],h=>h.elim
  | a :: l,b :: l',h=>by simp [entL_length h.2]

theorem entL_get {nl:List Nat}:∀ {l l':List SC} {j:Nat} {c:SC},entL nl l l' → l'[j]? = some c → ∃ d,l[j]? = some d∧entC nl d c
  | [],[],_,_,_,h=>by simp at h
  | [],_ :: _,_,_,h,_=>h.elim
  | _ :: _,[],_,_,h,_=>h.elim
  | a :: l,b :: l',0,c,h,hg=>by simp at hg; subst hg; exact⟨a,by simp,h.1⟩
  | a :: l,b :: l',j+1,c,h,hg=>by
    obtain ⟨d,hd,hc⟩:=entL_get (j:=j) h.2 (by simpa using hg)
    exact⟨d,by simpa using hd,hc⟩

theorem entT_rel {nl:List Nat} {ρ:Asg} (hn:NilN ρ nl):∀ {l l':List (Sum SC (List SC))} {vs:List Value},entT nl l l' → relT ρ l vs → relT ρ l' vs
  | [],[],_,_,h=>h
  | [], .inl _ :: _,_,h,_=>h.elim
  | [], .inr _ :: _,_,h,_=>h.elim
  | .inl _ :: _,[],_,h,_=>h.elim
  | .inr _ :: _,[],_,h,_=>h.elim
  | .inl _ :: _, .inr _ :: _,_,h,_=>h.elim
  | .inr _ :: _, .inl _ :: _,_,h,_=>h.elim
  | .inl a :: l, .inl b :: l',[],_,h=>h.elim
  | .inr a :: l, .inr b :: l',[],_,h=>h.elim
  | .inl a :: l, .inl b :: l',v :: vs,h,hr=>⟨entC_rel hn h.1 hr.1,entT_rel hn h.2 hr.2⟩
  | .inr a :: l, .inr b :: l',v :: vs,h,hr=>by
    obtain ⟨⟨xs,hv,hx⟩,hr2⟩:=hr
    exact⟨⟨xs,hv,entL_rel hn h.1 hx⟩,entT_rel hn h.2 hr2⟩

theorem entSV_rel {nl:List Nat} {ρ:Asg} {a b:SV} {v:Value} (hn:NilN ρ nl) (h:entSV nl a b) (hr:a.rel ρ v):b.rel ρ v:=by
  unfold entSV at h
  split at h
  · exact entC_rel hn h hr
  · obtain ⟨xs,rfl,hx⟩:=hr; exact⟨xs,rfl,entL_rel hn h hx⟩
  · obtain ⟨xs,rfl,hx⟩:=hr; exact⟨xs,rfl,entT_rel hn h hx⟩
  · obtain ⟨us,rfl,hx⟩:=hr; obtain ⟨rfl,h⟩:=h; exact⟨us,rfl,entL_rel hn h hx⟩
  · trivial
  · trivial
  · exact h.elim

theorem entO_room {nl:List Nat} {a b:SO} (h:entO nl a b) (r:Rg):b.room r=a.room r:=by
  unfold entO at h
  split at h
  · rename_i ty l ty' l'
    have hL:entL nl l l':=by
      cases ty' with
      | none=>exact h
      | some t=>exact h.2
    simp [SO.room,entL_length hL]
  · rw [h]
  · simp [SO.room]
  · simp [SO.room]
  · exact h.elim

theorem entO_fp {nl:List Nat} {a b:SO} (h:entO nl a b) (r:Rg):b.fp r=a.fp r:=by
  unfold entO at h
  split at h
  · rfl
  · rw [h]
  · rfl
  · rw [h]
  · exact h.elim

theorem ent_fp {nl:List Nat} {a b:SO} {σ:Nat → Nat} (h:entO nl a (b.ren σ)) (r:Rg):b.fp r=a.fp r:=by rw [← entO_fp h,SO.ren_fp]

theorem entO_sat {nl:List Nat} {ρ:Asg} {w:World} {k:Nat} {own:Bool} {a b:SO} (hn:NilN ρ nl) (h:entO nl a b) (hs:SatO ρ w k own a):SatO ρ w k own b:=by
  unfold entO at h
  split at h
  · rename_i ty l ty' l'
    have hL:entL nl l l':=by
      cases ty' with
      | none=>exact h
      | some t=>exact h.2
    refine⟨trivial, ?_, ?_,hs.off0,(fun _ hl=>by cases hl),(fun _ hl=>by cases hl),(fun _ hl=>by cases hl),fun t ht hr=>?_⟩
    · intro i j c hc
      cases i with
      | succ i=>simp [SO.cell?] at hc
      | zero =>
        simp only [SO.cell?] at hc
        obtain ⟨d,hd,he⟩:=entL_get hL hc
        obtain ⟨v,hv,hr⟩:=hs.at_ 0 j d (by simpa [SO.cell?] using hd)
        exact⟨v,hv,entC_rel hn he hr⟩
    · intro ho _ _ n hn
      exact hs.room ho (by simp) (by simp) n (by simpa [SO.room,entL_length hL] using hn)
    · have ht:ty'=some t:=ht
      subst ht
      exact hs.typd t h.1 (by have:=entL_length hL; simp only [SO.room] at hr ⊢; omega)
  · rw [← h]; exact hs
  · rw [← h]; exact hs
  · rw [← h]; exact hs
  · exact h.elim

theorem SatO.less' {ρ:Asg} {w:World} {k:Nat} {o:SO} {own own':Bool} (h:SatO ρ w k own o) (hi:own'=true → own=true):SatO ρ w k own' o where
  wf:=h.wf
  at_:=h.at_
  room ho:=h.room (hi ho)
  off0 ho:=h.off0 (hi ho)
  keys:=h.keys
  boxed:=h.boxed
  fixd:=h.fixd
  typd:=h.typd

def entVs (nl:List Nat):List SV → List SV → Prop
  | [],[]=>True
  | a :: l,b :: l'=>entSV nl a b∧entVs nl l l'
  | _,_=>False

theorem entVs_rel {nl:List Nat} {ρ:Asg} (hn:NilN ρ nl):∀ {l l':List SV} {vs:List Value},entVs nl l l' → relVs ρ l vs → relVs ρ l' vs
  | [],[],_,_,h=>h
  | [],_ :: _,_,h,_=>h.elim
  | _ :: _,[],_,h,_=>h.elim
  | a :: l,b :: l',[],_,h=>h.elim
  | a :: l,b :: l',v :: vs,h,hr=>⟨entSV_rel hn h.1 hr.1,entVs_rel hn h.2 hr.2⟩

def nilO (o:SO):Prop:=match o with
  | .arr A=>(match A.fx with
    | none=>A.xs=[]
    | some _=>False)
  | _=>False

def entH (nl:List Nat) (H:Heap) (σ:Nat → Nat):Heap → Prop
  | []=>True
  | (k,own,o) :: r=>bif memN (σ k) nl then nilO o∧entH nl H σ r else (match look H (σ k) with
    | some (own',o')=>bif cond own own' true then entO nl o' (o.ren σ)∧entH nl H σ r else False
    | none=>False)

theorem entH_get {nl:List Nat} {H:Heap} {σ:Nat → Nat}:∀ {post:Heap} {k:Nat} {own:Bool} {o:SO},entH nl H σ post → look post k=some (own,o) →
    (σ k ∈ nl∧nilO o) ∨ (σ k ∉ nl∧∃ own' o',look H (σ k)=some (own',o')∧(own=true → own'=true)∧entO nl o' (o.ren σ))
  | [],_,_,_,_,h=>by simp [look] at h
  | (j,own,o) :: r,k,own1,o1,hp,h=>by
    simp only [entH] at hp
    rw [look_cons] at h
    cases hm:memN (σ j) nl with
    | true =>
      simp only [hm,cond_true] at hp
      by_cases hk:k=j
      · rw [if_pos hk] at h; simp at h; obtain ⟨rfl,rfl⟩:=h; subst hk
        exact .inl ⟨memN_iff.1 hm,hp.1⟩
      · rw [if_neg hk] at h; exact entH_get hp.2 h
    | false =>
      simp only [hm,cond_false] at hp
      split at hp
      · rename_i own' o' hl
        cases hb:cond own own' true with
        | false=>simp [hb] at hp
        | true =>
          simp only [hb,cond_true] at hp
          by_cases hk:k=j
          · rw [if_pos hk] at h; simp at h; obtain ⟨rfl,rfl⟩:=h; subst hk
            exact .inr ⟨(fun hh=>by rw [memN_iff.2 hh] at hm; cases hm),own',o',hl,fun ho=>by subst ho; simpa using hb,hp.1⟩
          · rw [if_neg hk] at h; exact entH_get hp.2 h
      · exact hp.elim

theorem satO_nil {ρ:Asg} {w:World} {k:Nat} {own:Bool} {o:SO} (h:nilO o) (hc:ρ k=⟨0,0,0,[]⟩):SatO ρ w k own o∧o.room (ρ k)=0:=by
  cases o with
  | arr A =>
    simp only [nilO] at h
    split at h
    rotate_left
    · exact h.elim
    rename_i hfx
    refine⟨⟨by simp [SO.wf,h], ?_, ?_,(fun _=>by rw [hc]),(fun _ h=>by cases h),(fun _ h=>by cases h),(fun n hn=>by rw [show (SO.arr A).fx=A.fx from rfl,hfx] at hn; cases hn),fun t ht hr=>by simp [SO.room,hc] at hr⟩,by simp [SO.room,hc]⟩
    · intro i j c hx
      simp [SO.cell?,h] at hx
    · intro _ _ _ n hn
      simp [SO.room,hc] at hn
  | _=>exact h.elim

def addN2 (np a b:Nat) (τ:List (Nat × Nat)):List (Nat × Nat) :=
  bif Nat.blt a np then τ else bif memN a (τ.map Prod.fst) then τ else (a,b) :: τ

def findNs (np:Nat):List Nat → List Nat → List (Nat × Nat) → List (Nat × Nat)
  | a :: l,b :: l',τ=>findNs np l l' (addN2 np a b τ)
  | _,_,τ=>τ

def addNil (np nx a:Nat) (τ:List (Nat × Nat)):List (Nat × Nat) :=
  bif Nat.blt a np then τ else bif memN a (τ.map Prod.fst) then τ else (a,nx+τ.length) :: τ

def findC (np nx:Nat) (p a:SC) (τ:List (Nat × Nat)):List (Nat × Nat):=match p,a with
  | .p k _ _ _, .p k' _ _ _=>addN2 np k k' τ
  | .s k _ _ _, .s k' _ _ _=>addN2 np k k' τ
  | .s k _ _ _, .v (.slice none _ _)=>addNil np nx k τ
  | .f _ c, .f _ c'=>findNs np c c' τ
  | .m k, .m k'=>addN2 np k k' τ
  | .ghost k _, .ghost k' _=>addN2 np k k' τ
  | .gp k _, .gp k' _=>addN2 np k k' τ
  | _,_=>τ

def findL (np nx:Nat):List SC → List SC → List (Nat × Nat) → List (Nat × Nat)
  | p :: l,a :: l',τ=>findL np nx l l' (findC np nx p a τ)
  | _,_,τ=>τ

def findT (np nx:Nat):List (Sum SC (List SC)) → List (Sum SC (List SC)) → List (Nat × Nat) → List (Nat × Nat)
  | .inl p :: l, .inl a :: l',τ=>findT np nx l l' (findC np nx p a τ)
  | .inr p :: l, .inr a :: l',τ=>findT np nx l l' (findL np nx p a τ)
  | _,_,τ=>τ

def findSV (np nx:Nat) (p a:SV) (τ:List (Nat × Nat)):List (Nat × Nat):=match p,a with
  | .c p, .c a=>findC np nx p a τ
  | .agg p, .agg a=>findL np nx p a τ
  | .tup p, .tup a=>findT np nx p a τ
  | .pk _ p, .pk _ a=>findL np nx p a τ
  | _,_=>τ

def findVs (np nx:Nat):List SV → List SV → List (Nat × Nat) → List (Nat × Nat)
  | p :: l,a :: l',τ=>findVs np nx l l' (findSV np nx p a τ)
  | _,_,τ=>τ

def findO (np nx:Nat) (p a:SO) (τ:List (Nat × Nat)):List (Nat × Nat):=match p,a with
  | .cel _ p, .cel _ a=>findL np nx p a τ
  | .arr p, .arr a=>findNs np p.nm a.nm τ
  | _,_=>τ

def findH (np nx:Nat) (H:Heap):Heap → List (Nat × Nat) → List (Nat × Nat)
  | [],τ=>τ
  | (k,_,o) :: r,τ=>match look H (rnf τ k) with
    | some (_,o')=>findH np nx H r (findO np nx o o' τ)
    | none=>findH np nx H r τ

def nilsOf (nx:Nat):List (Nat × Nat) → List Nat
  | []=>[]
  | (_,b) :: r=>bif Nat.ble nx b then b :: nilsOf nx r else nilsOf nx r

theorem nilsOf_ge {nx:Nat}:∀ {τ:List (Nat × Nat)} {k:Nat},k ∈ nilsOf nx τ → nx≤k
  | [],_,h=>by cases h
  | (a,b) :: r,k,h=>by
    simp only [nilsOf] at h
    cases hb:Nat.ble nx b with
    | false=>simp [hb] at h; exact nilsOf_ge h
    | true =>
      simp only [hb,cond_true] at h
      rcases List.mem_cons.1 h with rfl | h
      · exact Nat.le_of_ble_eq_true hb
      · exact nilsOf_ge h

def forceτ:List (Nat × Nat) → (List (Nat × Nat) → Prop) → Prop
  | [],K=>K []
  | (a,b) :: r,K=>forceN a fun a=>forceN b fun b=>forceτ r fun r=>K ((a,b) :: r)

theorem forceτ_eq {l:List (Nat × Nat)} {K:List (Nat × Nat) → Prop}:forceτ l K=K l:=by
  induction l generalizing K with
  | nil=>rfl
  | cons c l ih=>obtain ⟨a,b⟩:=c; simp [forceτ,forceN_eq,ih]

def findNsK (np:Nat):List Nat → List Nat → List (Nat × Nat) → (List (Nat × Nat) → Prop) → Prop
  | a :: l,b :: l',τ,K=>forceτ (addN2 np a b τ) fun τ=>findNsK np l l' τ K
  | _,_,τ,K=>K τ

def findCK (np nx:Nat) (p a:SC) (τ:List (Nat × Nat)) (K:List (Nat × Nat) → Prop):Prop:=match p,a with
  | .p k _ _ _, .p k' _ _ _=>forceτ (addN2 np k k' τ) K
  | .s k _ _ _, .s k' _ _ _=>forceτ (addN2 np k k' τ) K
  | .s k _ _ _, .v (.slice none _ _)=>forceτ (addNil np nx k τ) K
  | .f _ c, .f _ c'=>findNsK np c c' τ K
  | .m k, .m k'=>forceτ (addN2 np k k' τ) K
  | .ghost k _, .ghost k' _=>forceτ (addN2 np k k' τ) K
  | .gp k _, .gp k' _=>forceτ (addN2 np k k' τ) K
  | _,_=>K τ

def findLK (np nx:Nat):List SC → List SC → List (Nat × Nat) → (List (Nat × Nat) → Prop) → Prop
  | p :: l,a :: l',τ,K=>findCK np nx p a τ fun τ=>findLK np nx l l' τ K
  | _,_,τ,K=>K τ

def findTK (np nx:Nat):List (Sum SC (List SC)) → List (Sum SC (List SC)) → List (Nat × Nat) → (List (Nat × Nat) → Prop) → Prop
  | .inl p :: l, .inl a :: l',τ,K=>findCK np nx p a τ fun τ=>findTK np nx l l' τ K
  | .inr p :: l, .inr a :: l',τ,K=>findLK np nx p a τ fun τ=>findTK np nx l l' τ K
  | _,_,τ,K=>K τ

def findSVK (np nx:Nat) (p a:SV) (τ:List (Nat × Nat)) (K:List (Nat × Nat) → Prop):Prop:=match p,a with
  | .c p, .c a=>findCK np nx p a τ K
  | .agg p, .agg a=>findLK np nx p a τ K
  | .tup p, .tup a=>findTK np nx p a τ K
  | .pk _ p, .pk _ a=>findLK np nx p a τ K
  | _,_=>K τ

def findVsK (np nx:Nat):List SV → List SV → List (Nat × Nat) → (List (Nat × Nat) → Prop) → Prop
  | p :: l,a :: l',τ,K=>findSVK np nx p a τ fun τ=>findVsK np nx l l' τ K
  | _,_,τ,K=>K τ

def findOK (np nx:Nat) (p a:SO) (τ:List (Nat × Nat)) (K:List (Nat × Nat) → Prop):Prop:=match p,a with
  | .cel _ p, .cel _ a=>findLK np nx p a τ K
  | .arr p, .arr a=>findNsK np p.nm a.nm τ K
  | _,_=>K τ

def findHK (np nx:Nat) (H:Heap):Heap → List (Nat × Nat) → (List (Nat × Nat) → Prop) → Prop
  | [],τ,K=>K τ
  | (k,_,o) :: r,τ,K=>match look H (rnf τ k) with
    | some (_,o')=>findOK np nx o o' τ fun τ=>findHK np nx H r τ K
    | none=>findHK np nx H r τ K

theorem findNsK_eq {np:Nat}:∀ {l l':List Nat} {τ:List (Nat × Nat)} {K:List (Nat × Nat) → Prop},findNsK np l l' τ K=K (findNs np l l' τ)
  | [],[],_,_=>rfl
  | [],_ :: _,_,_=>rfl
  | _ :: _,[],_,_=>rfl
  | a :: l,b :: l',τ,K=>by simp only [findNsK,forceτ_eq,findNs,findNsK_eq]

theorem findCK_eq {np nx:Nat} {p a:SC} {τ:List (Nat × Nat)} {K:List (Nat × Nat) → Prop}:findCK np nx p a τ K=K (findC np nx p a τ):=by
  unfold findCK findC
  split <;> simp only [forceτ_eq,findNsK_eq]

theorem findLK_eq {np nx:Nat}:∀ {l l':List SC} {τ:List (Nat × Nat)} {K:List (Nat × Nat) → Prop},findLK np nx l l' τ K=K (findL np nx l l' τ)
  | [],[],_,_=>rfl
  | [],_ :: _,_,_=>rfl
  | _ :: _,[],_,_=>rfl
  | a :: l,b :: l',τ,K=>by simp only [findLK,findCK_eq,findL,findLK_eq]

theorem findTK_eq {np nx:Nat}:∀ {l l':List (Sum SC (List SC))} {τ:List (Nat × Nat)} {K:List (Nat × Nat) → Prop},findTK np nx l l' τ K=K (findT np nx l l' τ)
  | [],[],_,_=>rfl
  | [],_ :: _,_,_=>rfl
  | .inl _ :: _,[],_,_=>rfl
  | .inr _ :: _,[],_,_=>rfl
  | .inl _ :: _, .inr _ :: _,_,_=>rfl
  | .inr _ :: _, .inl _ :: _,_,_=>rfl
  | .inl a :: l, .inl b :: l',τ,K=>by simp only [findTK,findCK_eq,findT,findTK_eq]
  | .inr a :: l, .inr b :: l',τ,K=>by simp only [findTK,findLK_eq,findT,findTK_eq]

theorem findSVK_eq {np nx:Nat} {p a:SV} {τ:List (Nat × Nat)} {K:List (Nat × Nat) → Prop}:findSVK np nx p a τ K=K (findSV np nx p a τ):=by
  unfold findSVK findSV
  split <;> simp only [findCK_eq,findLK_eq,findTK_eq]

theorem findVsK_eq {np nx:Nat}:∀ {l l':List SV} {τ:List (Nat × Nat)} {K:List (Nat × Nat) → Prop},findVsK np nx l l' τ K=K (findVs np nx l l' τ)
  | [],[],_,_=>rfl
  | [],_ :: _,_,_=>rfl
  | _ :: _,[],_,_=>rfl
  | a :: l,b :: l',τ,K=>by simp only [findVsK,findSVK_eq,findVs,findVsK_eq]

theorem findOK_eq {np nx:Nat} {p a:SO} {τ:List (Nat × Nat)} {K:List (Nat × Nat) → Prop}:findOK np nx p a τ K=K (findO np nx p a τ):=by
  unfold findOK findO
  split <;> simp only [findLK_eq,findNsK_eq]

theorem findHK_eq {np nx:Nat} {H:Heap}:∀ {l:Heap} {τ:List (Nat × Nat)} {K:List (Nat × Nat) → Prop},findHK np nx H l τ K=K (findH np nx H l τ)
  | [],_,_=>rfl
  | (k,own,o) :: r,τ,K=>by
    simp only [findHK,findH]
    split <;> simp only [findOK_eq,findHK_eq]

def RetE (rv:SV) (H:Heap) (nx np:Nat) (r:SV) (post:Heap):Prop :=
  findSVK np nx r rv [] fun τ=>findHK np nx H post τ fun τ =>
    bif allGeF np τ && nodupB (mapN (rnf τ) (keys post)) then forceLs (nilsOf nx τ) fun nl=>entSV nl rv (r.ren (rnf τ))∧entH nl H (rnf τ) post else False

def takeK:List Nat → Heap → (Heap → Prop) → Prop
  | [],H,K=>K H
  | k :: r,H,K=>match look H k with
    | some (true, .raw Φ)=>(∀ x,Φ x → x=.deferred (some []))∧takeK r ((k,false, .cells []) :: H) K
    | _=>False

def RetP (B:Tabs) (fn:Func) (np:Nat) (r:SV) (post:Heap) (ex:Exit) (s:St):Prop :=
  match s with
  | ⟨e,H,nx⟩=>match ex with
    | .normal=>takeK e.marks H fun H=>resK B ⟨e,H,nx⟩ fn.results.toList fun l=>RetE (packR l) H nx np r post
    | .ret=>takeK e.marks H fun H=>resK B ⟨e,H,nx⟩ fn.results.toList fun l=>RetE (packR l) H nx np r post
    | _=>False

def Env.clear:Env → Env
  | .nil=>.nil
  | .put i v e=>.put i v e.clear
  | .mask m e=>.mask m e.clear
  | .mark _ e=>e.clear

theorem clear_get:∀ (e:Env) (i:Nat),e.clear.get i=e.get i
  | .nil,_=>rfl
  | .put j v e,i=>by simp only [Env.clear,Env.get,clear_get e i]
  | .mask m e,i=>by simp only [Env.clear,Env.get,clear_get e i]
  | .mark _ e,i=>clear_get e i

theorem clear_marks:∀ (e:Env),e.clear.marks=[]
  | .nil=>rfl
  | .put _ _ e=>clear_marks e
  | .mask _ e=>clear_marks e
  | .mark _ e=>clear_marks e

theorem resK_clear {B:Tabs} {e e':Env} {H:Heap} {nx nx':Nat} (h:∀ i,e'.get i=e.get i):∀ {rs:List ResultVar} {K:List SV → Prop},resK B ⟨e,H,nx⟩ rs K → resK B ⟨e',H,nx'⟩ rs K
  | [],_,hk=>hk
  | .tmp t :: r,K,hk=>by
    simp only [resK,h] at hk ⊢
    exact resK_clear h hk
  | .cell a t :: r,K,hk=>by
    simp only [resK,h] at hk ⊢
    split at hk
    · split at hk
      · rename_i l hl
        have key:∀ {ti:TI} {l:List SC} {K K':PK},(∀ sv rd,K sv rd → K' sv rd) → loadL ti l 0 [] K → loadL ti l 0 [] K':=by
          intro ti l K K' hm hl
          unfold loadL at hl ⊢
          cases hb:ti.kd.isAgg with
          | true =>
            simp only [hb,cond_true] at hl ⊢
            obtain ⟨h1,h2⟩:=bif_and hl
            rw [h1]; exact hm _ _ h2
          | false =>
            simp only [hb,cond_false] at hl ⊢
            cases hq:l[0]? with
            | none=>rw [hq] at hl; exact hl.elim
            | some c=>rw [hq] at hl; exact hm _ _ hl
        exact key (fun sv rd hk=>resK_clear h hk) hk
      · obtain ⟨vs,h1,h2⟩:=hk
        exact⟨vs,h1,resK_clear h h2⟩
      · exact hk.elim
    · exact hk.elim

def envOf:Nat → List SV → Env
  | _,[]=>.nil
  | i,s :: l=>.put i s (envOf (i+1) l)

theorem envOf_get:∀ (l:List SV) (i j:Nat),(envOf i l).get j=if i≤j then (l[j - i]?).getD (.c .junk) else .c .junk
  | [],i,j=>by simp [envOf,Env.get]
  | s :: l,i,j=>by
    simp only [envOf]
    rw [get_put,envOf_get l (i+1) j]
    by_cases h1:j=i
    · subst h1; simp
    · by_cases h2:i≤j
      · rw [if_neg h1,if_pos (by omega),if_pos h2]
        rw [show j - i=(j - (i+1))+1 from by omega]; simp
      · rw [if_neg h1,if_neg (by omega),if_neg h2]

theorem envOf_marks:∀ (l:List SV) (i:Nat),(envOf i l).marks=[]
  | [],_=>rfl
  | _ :: l,i=>envOf_marks l (i+1)

theorem relVs_get {ρ:Asg}:∀ {l:List SV} {vs:List Value} {i:Nat} {s:SV},relVs ρ l vs → l[i]? = some s → ∃ v,vs[i]? = some v∧s.rel ρ v
  | [],_,_,_,_,h=>by simp at h
  | _ :: _,[],_,_,hr,_=>hr.elim
  | c :: l,v :: vs,0,x,hr,h=>by simp at h; subst h; exact⟨v,by simp,hr.1⟩
  | c :: l,v :: vs,i+1,x,hr,h=>by
    obtain ⟨u,hu,hx⟩:=relVs_get (i:=i) hr.2 (by simpa using h); exact⟨u,by simpa using hu,hx⟩

theorem mem_nmsV {l:List SV} {s:SV} {k:Nat} (h:s ∈ l) (hk:k ∈ s.nms):k ∈ nmsV l:=by
  induction l with
  | nil=>cases h
  | cons x l ih =>
    rcases List.mem_cons.1 h with rfl | h
    · simp [nmsV,hk]
    · simp [nmsV,ih h]

def cxOf (P:Program) (w:World) (ρ:Asg) (pre:Heap) (nt np:Nat):Cx:=⟨P,w,ownB ρ pre,nt,none,ρ,np,none,#[],[]⟩

theorem Sat.dropObj {cx:Cx} {ρ:Asg} {e:Env} {H:Heap} {nx:Nat} {a:Act} {w:World} (h:Sat cx ρ ⟨e,H,nx⟩ a w) {k:Nat} {Φ:Obj → Prop} (hl:look H k=some (true, .raw Φ)) (hk:k < nx) (o:Obj) :
    Sat cx ρ ⟨e,(k,false, .cells []) :: H,nx⟩ a (w.putObj (ρ k).blk o):=by
  have hr:0 < (SO.raw Φ).room (ρ k):=by simp [SO.room]
  have hne:∀ b,b ≠ (ρ k).blk → (w.putObj (ρ k).blk o).heap[b]? = w.heap[b]?:=fun b hb=>World.putObj_heap_other hb
  have hd:∀ j own' p,look H j=some (own',p) → j ≠ k → 0 < p.room (ρ j) → ∀ b ∈ p.fp (ρ j),b ≠ (ρ k).blk:=fun j own' p hj hjk hpr b hb he =>
    h.heap.apart k j _ own' p (Ne.symm hjk) hl hj hr hpr (ρ k).blk blk_fp (he ▸ hb)
  exact { size := h.size, defers := h.defers, env := h.env
          heap:=h.heap.cons (fun j own q _ _=>⟨rfl,fun _ _=>rfl⟩) (by rw [World.putObj_size]; exact Nat.le_refl _)
            ⟨by rw [World.putObj_size]; exact h.heap.frm.size,fun b hb hM=>by
              rw [hne b (by
                rintro rfl
                rcases h.heap.fresh k _ hl hr _ blk_fp with h1 | h1
                · omega
                · exact hM h1)]
              exact h.heap.frm.same b hb hM,h.heap.frm.io,h.heap.frm.quiet⟩
            (fun b _ hb=>hne b hb) rfl (fun j own' q _ _ _ hr0=>by simp [SO.room] at hr0) (fun j own' q hj hjk hq b hb=>hne _ (hd j own' q hj hjk hq b hb)) (satO_dead _ _ _) (fun h=>by cases h) (fun hr0=>by simp [SO.room] at hr0)
          bnd:=h.bnd.cons hk (by intro j hj; simp [SO.uses,usesL] at hj),base:=h.base,keep:=h.keep,n0:=h.n0 }

theorem ret_sat {cx:Cx} {ρ':Asg} {s':St} {a':Act} {w':World} {rv r:SV} {v:Value} {np:Nat} {post:Heap} (hs':Sat cx ρ' s' a' w') (hn:cx.n0=np) (hrel:rv.rel ρ' v) (hbel:rv.below s'.nx)
    (hret:RetE rv s'.H s'.nx np r post):∃ ρ'':Asg,(∀ k,k < np → ρ'' k=cx.ρ0 k)∧r.rel ρ'' v∧SatH cx.w0 cx.M ρ'' post w':=by
  simp only [RetE,findSVK_eq,findHK_eq] at hret
  generalize findH np s'.nx s'.H post (findSV np s'.nx r rv [])=τ at hret
  cases hτ:allGeF np τ && nodupB (mapN (rnf τ) (keys post)) with
  | false=>simp [hτ] at hret
  | true =>
    simp only [hτ,cond_true,forceLs_eq] at hret
    obtain ⟨hrv,hpost⟩:=hret
    simp only [Bool.and_eq_true] at hτ
    obtain ⟨ht1,ht3⟩:=hτ
    obtain ⟨ρn,hρn⟩:∃ ρn:Asg,ρn=fun k=>if k ∈ nilsOf s'.nx τ then ⟨0,0,0,[]⟩ else ρ' k:=⟨_,rfl⟩
    have hin:∀ k,k ∈ nilsOf s'.nx τ → ρn k=⟨0,0,0,[]⟩:=fun k hk=>by rw [hρn]; simp only; rw [if_pos hk]
    have hout:∀ k,k ∉ nilsOf s'.nx τ → ρn k=ρ' k:=fun k hk=>by rw [hρn]; simp only; rw [if_neg hk]
    have hlow:∀ k,k < s'.nx → ρn k=ρ' k:=fun k hk=>hout k fun hm=>by have:=nilsOf_ge hm; omega
    have hnn:NilN ρn (nilsOf s'.nx τ):=fun k hk=>by rw [hin k hk]
    have hreg:∀ k own o,look s'.H k=some (own,o) → SatO ρn w' k own o∧ρn k=ρ' k:=fun k own o hl=>by
      have hb:=hs'.bnd.heap k own o hl
      exact⟨(hs'.heap.reg k own o hl).asg (hlow k hb.1) (fun n hn=>hlow n (hb.2 n hn)),hlow k hb.1⟩
    have hrel':rv.rel ρn v:=SV.rel_agree (fun k hk=>hlow k (hbel k hk)) hrel
    have hbel':∀ k,k < np → k < s'.nx:=fun k hk=>Nat.lt_of_lt_of_le hk (by rw [← hn]; exact hs'.n0)
    refine⟨fun k=>ρn (rnf τ k), ?_, ?_, ?_⟩
    · intro k hk
      show ρn (rnf τ k)=cx.ρ0 k
      rw [rnf_lt ht1 hk,hlow k (hbel' k hk)]
      exact hs'.base k (by omega)
    · exact SV.ren_rel.1 (entSV_rel hnn hrv hrel')
    · have hget:=fun {k own o} (hl:look post k=some (own,o))=>entH_get hpost hl
      refine⟨hs'.heap.frm, ?_, ?_, ?_, ?_⟩
      · intro k own o hl
        rcases hget hl with ⟨hm,hnil⟩ | ⟨_,own',o',hl',ho,he⟩
        · exact (satO_nil (ρ:=fun k=>ρn (rnf τ k)) hnil (hin _ hm)).1
        · exact (entO_sat hnn he ((hreg _ _ _ hl').1.less' ho)).of_ren
      · intro k k' o own' o' hne hl hl' hr hr'
        rcases hget hl with ⟨hm,hnil⟩ | ⟨_,own1,o1,hl1,ho1,he1⟩
        · rw [(satO_nil (ρ:=fun k=>ρn (rnf τ k)) (w:=w') (own:=true) hnil (hin _ hm)).2] at hr; omega
        rcases hget hl' with ⟨hm,hnil⟩ | ⟨_,own2,o2,hl2,ho2,he2⟩
        · rw [(satO_nil (ρ:=fun k=>ρn (rnf τ k)) (w:=w') (own:=true) hnil (hin _ hm)).2] at hr'; omega
        have:=ho1 rfl; subst this
        simp only [(hreg _ _ _ hl1).2,(hreg _ _ _ hl2).2] at hr hr' ⊢
        rw [ent_fp he1,ent_fp he2]
        refine hs'.heap.apart (rnf τ k) (rnf τ k') _ _ _ ?_ hl1 hl2 (by rw [← entO_room he1,SO.ren_room]; exact hr) (by rw [← entO_room he2,SO.ren_room]; exact hr')
        exact fun he=>hne (nodupB_inj ht3 k (look_keys hl) k' (look_keys hl') he)
      · intro k o hl hr
        rcases hget hl with ⟨hm,hnil⟩ | ⟨_,own1,o1,hl1,ho1,he1⟩
        · rw [(satO_nil (ρ:=fun k=>ρn (rnf τ k)) (w:=w') (own:=true) hnil (hin _ hm)).2] at hr; omega
        have:=ho1 rfl; subst this
        simp only [(hreg _ _ _ hl1).2] at hr ⊢
        rw [ent_fp he1]
        exact hs'.heap.fresh _ _ hl1 (by rw [← entO_room he1,SO.ren_room]; exact hr)
      · intro k own o hl hr
        rcases hget hl with ⟨hm,hnil⟩ | ⟨_,own1,o1,hl1,ho1,he1⟩
        · rw [(satO_nil (ρ:=fun k=>ρn (rnf τ k)) (w:=w') (own:=true) hnil (hin _ hm)).2] at hr; omega
        simp only [(hreg _ _ _ hl1).2] at hr ⊢
        rw [ent_fp he1]
        exact hs'.heap.valid _ _ _ hl1 (by rw [← entO_room he1,SO.ren_room]; exact hr)

theorem triple_of {P:Program} {B:Tabs} (hB:TabsOK P B) {f:FuncId} {fn:Func} {c:Code} {args:List SV} {pre:Heap} {np:Nat} {r:SV} {post:Heap}
    (hf:P.funcs[f]? = some fn) (hb:fn.body=some c) (henter:∀ args w,(callFunc f args).run P w=.ok (.enter f args) w)
    (hn:(allLt np (nmsV args) && (allLt np (nmsH pre) && Nat.ble args.length fn.ntmps))=true)
    (h:∀ (ρ:Asg) (w:World),SatH w (ownB ρ pre) ρ pre w → vc (cxOf P w ρ pre fn.ntmps np) B c (RetP B fn np r post) ⟨envOf 0 args,pre,np⟩) :
    Triple P f args pre np r post where
  enter:=henter
  h ρ w vals hv hH:=by
    simp only [Bool.and_eq_true] at hn
    obtain ⟨hn1,hn2,hn3⟩:=hn
    have hn1:=allLt_iff.1 hn1
    have hn2:=allLt_iff.1 hn2
    have hn3:=Nat.le_of_ble_eq_true hn3
    have hlen:args.length=vals.size:=by simpa using relVs_length hv
    rw [← callsIn_wide (n:=0)]
    refine callsIn_of_wp_marks (F:=Fence.wide) hf hb trivial ?_ rfl
    have hs:Sat (cxOf P w ρ pre fn.ntmps np) ρ ⟨envOf 0 args,pre,np⟩ { tmps:=vals ++ Array.replicate (fn.ntmps - vals.size) undef,defers:=[] } w:=by
      refine⟨by simp [cxOf]; omega,by simp [envOf_marks,cxOf], ?_,hH,⟨?_,by simp only [envOf_marks]; simp, ?_⟩,fun _ _=>rfl,(fun _ h=>by cases h),Nat.le_refl _⟩
      · intro i
        simp only [envOf_get,Nat.zero_le,if_true,Nat.sub_zero]
        cases ha:args[i]? with
        | none=>trivial
        | some s =>
          obtain ⟨v,hv',hr⟩:=relVs_get hv ha
          have hlt:i < vals.size:=by
            have:=(List.getElem?_eq_some_iff.1 hv').1; simpa using this
          have:(vals ++ Array.replicate (fn.ntmps - vals.size) undef).getD i undef=v:=by
            rw [Array.getD_eq_getD_getElem?,Array.getElem?_append_left hlt]
            have h2:vals[i]? = some v:=by simpa using hv'
            simp [h2]
          rw [this]; exact hr
      · intro i k hk
        simp only [envOf_get,Nat.zero_le,if_true,Nat.sub_zero] at hk
        cases ha:args[i]? with
        | none=>simp [ha,SV.uses,SC.uses,SC.nms,anyMem] at hk
        | some s =>
          simp only [ha,Option.getD_some] at hk
          exact hn1 k (mem_nmsV (List.mem_of_getElem? ha) (SV.uses_nms.1 hk))
      · intro k own o hl
        have:=look_nms hl
        exact⟨hn2 k this.1,fun j hj=>hn2 j (this.2 j (SO.uses_nms.1 hj))⟩
    refine (vc_sound hB c _ _ (h ρ w hH)).h ρ _ w hs _ ?_
    intro ex s' ρ' a' w' hq hs'
    have fin0:∀ (s':St) (ρ':Asg) (a':Act) (w':World),Sat (cxOf P w ρ pre fn.ntmps np) ρ' s' a' w' → (resK B s' fn.results.toList fun l=>RetE (packR l) s'.H s'.nx np r post) → ∃ v,(results fn a'.tmps).run P w'=.ok v w' ∧
        ∃ ρ' v',(∀ k,k < np → ρ' k=ρ k)∧Ending.returned v=.returned v'∧r.rel ρ' v'∧SatH w (ownB ρ pre) ρ' post w':=by
      intro s' ρ' a' w' hs' hk
      obtain ⟨rv,hret,hres⟩:=results_run (cx:=cxOf P w ρ pre fn.ntmps np) (fn:=fn) (K:=fun rv=>RetE rv s'.H s'.nx np r post) hB hk
      obtain ⟨v,hv,hrel,hbel⟩:=hres ρ' a' w' hs'
      obtain ⟨ρ'',h1,h2,h3⟩:=ret_sat hs' rfl hrel hbel hret
      exact⟨v,hv,ρ'',v,h1,rfl,h2,h3⟩
    have fin:∀ (ds:List Nat) (e:Env) (H:Heap) (nx:Nat) (ρ':Asg) (a':Act) (w':World),e.marks=[] → Sat (cxOf P w ρ pre fn.ntmps np) ρ' ⟨e,H,nx⟩ { a' with defers:=[] } w' → (∀ k ∈ ds,k < nx) →
        (takeK ds H fun H=>resK B ⟨e,H,nx⟩ fn.results.toList fun l=>RetE (packR l) H nx np r post) →
        LeavesInM Fence.wide 0 P fn a'.tmps (fun e w'=>∃ ρ' v,(∀ k,k < np → ρ' k=ρ k)∧e=.returned v∧r.rel ρ' v∧SatH w (ownB ρ pre) ρ' post w') (ds.map (mkD ρ')) .returning w':=by
      intro ds
      induction ds with
      | nil =>
        intro e H nx ρ' a' w' _ hs' _ hk
        obtain ⟨v,hv,hR⟩:=fin0 ⟨e,H,nx⟩ ρ' _ w' hs' hk
        exact⟨v,hv,hR⟩
      | cons k ds ih =>
        intro e H nx ρ' a' w' he hs' hlt hk
        simp only [takeK] at hk
        split at hk
        · rename_i Φ hl
          obtain ⟨hΦ,hk⟩:=hk
          obtain ⟨x,hx,hxx⟩:=(hs'.heap.reg k true _ hl).keys Φ rfl
          rw [hΦ x hxx] at hx
          refine⟨by simp, .inl ⟨(ρ' k).blk,_,rfl,run_takeDeferred hx, ?_⟩⟩
          exact ih e _ nx ρ' a' _ he (hs'.dropObj hl (hlt k (by simp)) _) (fun j hj=>hlt j (by simp [hj])) hk
        · exact hk.elim
    obtain ⟨e',H',nx'⟩:=s'
    have hclr:Sat (cxOf P w ρ pre fn.ntmps np) ρ' ⟨e'.clear,H',nx'⟩ { a' with defers:=[] } w' :=
      { size:=hs'.size,defers:=by simp [clear_marks,cxOf],env:=fun i=>by simp only [clear_get]; exact hs'.env i,heap:=hs'.heap,
        bnd:=⟨fun i k hk=>hs'.bnd.env i k (by simp only [clear_get] at hk; exact hk),by simp [clear_marks],hs'.bnd.heap⟩,base:=hs'.base,keep:=hs'.keep,n0:=hs'.n0 }
    have hgo:(takeK e'.marks H' fun H=>resK B ⟨e',H,nx'⟩ fn.results.toList fun l=>RetE (packR l) H nx' np r post) → LeavesInM Fence.wide 0 P fn a'.tmps _ a'.defers .returning w':=fun hk=>by
      rw [hs'.defers,show (cxOf P w ρ pre fn.ntmps np).df=[] from rfl,List.append_nil]
      refine fin e'.marks e'.clear H' nx' ρ' a' w' (clear_marks _) hclr (fun k hk=>hs'.bnd.mks k hk) ?_
      clear hq hs' hclr
      generalize e'.marks=ds at hk
      induction ds generalizing H' with
      | nil=>exact resK_clear (clear_get e') hk
      | cons k ds ih =>
        simp only [takeK] at hk ⊢
        split at hk
        · rename_i Φ hl
          exact⟨hk.1,ih _ hk.2⟩
        · exact hk.elim
    cases ex with
    | normal=>exact hgo hq
    | ret=>exact hgo hq
    | _=>exact hq.elim

end Sx
end Go

