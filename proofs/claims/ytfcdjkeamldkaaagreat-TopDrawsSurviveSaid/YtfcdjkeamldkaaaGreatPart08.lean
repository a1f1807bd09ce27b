/-
  A part of the proof that a law answers true: lemmas of a symbolic walk, plain functions, or contracts of the functions walked (Sx19, Sx20, Sx21). Conditions: none.
-/
import Derived.Test.YtfcdjkeamldkaaaGreatPart07
import Derived.LoopNIn
import Derived.Laws.MakeOwn
set_option maxRecDepth 100000
set_option linter.unusedVariables false
set_option linter.unusedSimpArgs false
namespace Go
namespace Sx

def modOps:List Oper → Nat → Nat
  | [],m=>m
  | o :: r,m=>match o.dst with
    | some d=>modOps r (Nat.lor m (bit d))
    | none=>modOps r m

def modC:Code → Nat → Nat
  | .region _ ops _,m=>modOps ops.toList m
  | .seq x y,m=>modC x (modC y m)
  | .cond _ x y,m=>modC x (modC y m)
  | .block _ b,m=>modC b m
  | .loop b,m=>modC b m
  | .rangeFunc _ ps x y,m=>modC x (modC y (ps.toList.foldl (fun m d=>Nat.lor m (bit d)) m))
  | _,m=>m

def putAll:List (Nat × SV) → Env → Env
  | [],e=>e
  | (i,v) :: r,e=>.put i v (putAll r e)

def deadH:List Nat → Heap → Heap
  | [],H=>H
  | k :: r,H=>(k,false, .cells []) :: deadH r H

def forceDH:List Nat → Heap → (Heap → Prop) → Prop
  | [],H,K=>K H
  | k :: r,H,K=>forceDH r H fun H=>K ((k,false, .cells []) :: H)

def forcePA:List (Nat × SV) → Env → (Env → Prop) → Prop
  | [],e,K=>K e
  | (i,v) :: r,e,K=>forceSV v fun v=>forcePA r e fun e=>K (.put i v e)

theorem forceDH_eq {l:List Nat} {H:Heap} {K:Heap → Prop}:forceDH l H K=K (deadH l H):=by
  induction l generalizing K with
  | nil=>rfl
  | cons c l ih=>simp [forceDH,ih,deadH]

theorem forcePA_eq {l:List (Nat × SV)} {e:Env} {K:Env → Prop}:forcePA l e K=K (putAll l e):=by
  induction l generalizing K with
  | nil=>rfl
  | cons c l ih=>obtain ⟨i,v⟩:=c; simp [forcePA,ih,putAll,forceSV_eq]

def invSt (s:St) (m nl:Nat) (dead:List Nat) (st:List (Nat × SV)) (hp:Heap):St :=
  ⟨putAll st (.mask m s.e),hp ++ deadH dead s.H,s.nx+nl⟩

def forceSt (s:St) (m nl:Nat) (dead:List Nat) (st:List (Nat × SV)) (hp:Heap) (K:St → Prop):Prop:=match s with
  | ⟨e,H,nx⟩=>forceDH dead H fun H=>forceH hp H fun H=>forceN (nx+nl) fun nx=>forcePA st (.mask m e) fun e=>K ⟨e,H,nx⟩

theorem forceSt_eq {s:St} {m nl:Nat} {dead:List Nat} {st:List (Nat × SV)} {hp:Heap} {K:St → Prop}:forceSt s m nl dead st hp K=K (invSt s m nl dead st hp):=by
  obtain ⟨e,H,nx⟩:=s
  simp [forceSt,forceDH_eq,forceH_eq,forceN_eq,forcePA_eq,invSt]

def lcx (cx:Cx) (nx m:Nat) (ρ:Asg) (t0:Array Value):Cx:={ cx with md:=some m,t0:=t0,ρ0:=ρ,n0:=nx }

def findSt (np nx:Nat):List (Nat × SV) → Env → List (Nat × Nat) → List (Nat × Nat)
  | [],_,τ=>τ
  | (i,v) :: r,e,τ=>findSt np nx r e (findSV np nx v (e.get i) τ)

def findStK (np nx:Nat):List (Nat × SV) → Env → List (Nat × Nat) → (List (Nat × Nat) → Prop) → Prop
  | [],_,τ,K=>K τ
  | (i,v) :: r,e,τ,K=>findSVK np nx v (e.get i) τ fun τ=>findStK np nx r e τ K

theorem findStK_eq {np nx:Nat}:∀ {l:List (Nat × SV)} {e:Env} {τ:List (Nat × Nat)} {K:List (Nat × Nat) → Prop},findStK np nx l e τ K=K (findSt np nx l e τ)
  | [],_,_,_=>rfl
  | (i,v) :: r,e,τ,K=>by simp only [findStK,findSVK_eq,findSt,findStK_eq]

def entSt (nl:List Nat) (σ:Nat → Nat):List (Nat × SV) → Env → Prop
  | [],_=>True
  | (i,v) :: r,e=>entSV nl (e.get i) (v.ren σ)∧entSt nl σ r e

def nmsSt:List (Nat × SV) → List Nat
  | []=>[]
  | (_,v) :: r=>v.nms ++ nmsSt r

def okRen (nx:Nat) (dead:List Nat) (τ:List (Nat × Nat)):List Nat → Bool
  | []=>true
  | k :: r=>bif Nat.beq (rnf τ k) k then okRen nx dead τ r else bif Nat.ble nx (rnf τ k) then okRen nx dead τ r else bif memN (rnf τ k) dead then okRen nx dead τ r else false

def LoopK (s:St) (nl:Nat) (dead:List Nat) (st:List (Nat × SV)) (hp:Heap) (s':St):Prop :=
  findStK s.nx s'.nx st s'.e [] fun τ=>findHK s.nx s'.nx s'.H hp τ fun τ =>
    bif allGeF s.nx τ && (nodupB (mapN (rnf τ) (keys hp)) && (allLt (s.nx+nl) (nmsSt st) && (allLt (s.nx+nl) (nmsH hp) && (okRen s.nx dead τ (keys hp) && allLt s.nx dead)))) then
      forceLs (nilsOf s'.nx τ) fun nl'=>entSt nl' (rnf τ) st s'.e∧entH nl' s'.H (rnf τ) hp else False

theorem getD_map_mask {m i:Nat} {e:Env}:(Env.mask m e).get i=if bitAt m i=true then .c .junk else e.get i:=by
  simp only [Env.get]; cases bitAt m i <;> simp

theorem putAll_get:∀ {st:List (Nat × SV)} {e:Env} {i:Nat},(∃ v,(i,v) ∈ st∧(putAll st e).get i=v) ∨ (putAll st e).get i=e.get i
  | [],_,_=>.inr rfl
  | (j,v) :: r,e,i=>by
    simp only [putAll]
    rw [get_put]
    by_cases h:i=j
    · rw [if_pos h]; exact .inl ⟨v,by simp [h],rfl⟩
    · rw [if_neg h]
      rcases putAll_get (st:=r) (e:=e) (i:=i) with ⟨u,hu,he⟩ | he
      · exact .inl ⟨u,List.mem_cons_of_mem _ hu,he⟩
      · exact .inr he

theorem putAll_marks:∀ {st:List (Nat × SV)} {e:Env},(putAll st e).marks=e.marks
  | [],_=>rfl
  | (_,_) :: r,e=>putAll_marks (st:=r) (e:=e)

theorem entSt_get {nl:List Nat} {σ:Nat → Nat}:∀ {st:List (Nat × SV)} {e:Env},entSt nl σ st e → ∀ i v,(i,v) ∈ st → entSV nl (e.get i) (v.ren σ)
  | [],_,_,_,_,h=>by cases h
  | (j,u) :: r,e,h,i,v,hm=>by
    rcases List.mem_cons.1 hm with he | hm
    · simp at he; obtain ⟨rfl,rfl⟩:=he; exact h.1
    · exact entSt_get h.2 i v hm

theorem mem_nmsSt {st:List (Nat × SV)} {i:Nat} {v:SV} {k:Nat} (h:(i,v) ∈ st) (hk:k ∈ v.nms):k ∈ nmsSt st:=by
  induction st with
  | nil=>cases h
  | cons p r ih =>
    obtain ⟨j,u⟩:=p
    rcases List.mem_cons.1 h with he | h
    · simp at he; obtain ⟨rfl,rfl⟩:=he; simp [nmsSt,hk]
    · simp [nmsSt,ih h]

theorem look_deadH {dead:List Nat} {H:Heap} {k:Nat}:look (deadH dead H) k=if k ∈ dead then some (false, .cells []) else look H k:=by
  induction dead with
  | nil=>simp [deadH]
  | cons j r ih =>
    simp only [deadH,look_cons,List.mem_cons]
    by_cases h:k=j
    · simp [h]
    · simp [h,ih]

theorem okRen_get {nx:Nat} {dead:List Nat} {τ:List (Nat × Nat)}:∀ {l:List Nat},okRen nx dead τ l=true → ∀ k ∈ l,rnf τ k=k ∨ nx≤rnf τ k ∨ rnf τ k ∈ dead
  | [],_,_,h=>by cases h
  | j :: r,h,k,hk=>by
    simp only [okRen] at h
    have key:(rnf τ j=j ∨ nx≤rnf τ j ∨ rnf τ j ∈ dead)∧okRen nx dead τ r=true:=by
      cases h1:Nat.beq (rnf τ j) j with
      | true=>simp [h1] at h; exact⟨.inl (Nat.eq_of_beq_eq_true h1),h⟩
      | false =>
        simp only [h1,cond_false] at h
        cases h2:Nat.ble nx (rnf τ j) with
        | true=>simp [h2] at h; exact⟨.inr (.inl (Nat.le_of_ble_eq_true h2)),h⟩
        | false =>
          simp only [h2,cond_false] at h
          cases h3:memN (rnf τ j) dead with
          | true=>simp [h3] at h; exact⟨.inr (.inr (memN_iff.1 h3)),h⟩
          | false=>simp [h3] at h
    rcases List.mem_cons.1 hk with rfl | hk
    · exact key.1
    · exact okRen_get key.2 k hk

theorem ent_sat {cx:Cx} {ρ ρ':Asg} {s s':St} {a a':Act} {w w':World} {m nl:Nat} {dead:List Nat} {st:List (Nat × SV)} {hp:Heap}
    (hs:Sat cx ρ s a w) (hs':Sat (lcx cx s.nx m ρ a.tmps) ρ' s' a' w') (hE:LoopK s nl dead st hp s')
    (hbase:∀ k,k < s.nx → k ∉ keys hp → k ∉ dead → look s'.H k=look s.H k) (hmk:s'.e.marks=s.e.marks):∃ ρ'',Sat (lcx cx s.nx m ρ a.tmps) ρ'' (invSt s m nl dead st hp) a' w':=by
  simp only [LoopK,findStK_eq,findHK_eq] at hE
  generalize findH s.nx s'.nx s'.H hp (findSt s.nx s'.nx st s'.e [])=τ at hE
  simp only [forceLs_eq] at hE
  obtain ⟨hc,hst,hhp⟩:=bif_and hE
  simp only [Bool.and_eq_true] at hc
  obtain ⟨c1,c2,c3,c4,c5,c6⟩:=hc
  have c3:=allLt_iff.1 c3
  have c4:=allLt_iff.1 c4
  have c5:=okRen_get c5
  have c6:=allLt_iff.1 c6
  have hinj:=nodupB_inj c2
  have hid:∀ k,k < s.nx → rnf τ k=k:=fun k hk=>rnf_lt c1 hk
  obtain ⟨ρn,hρn⟩:∃ ρn:Asg,ρn=fun k=>if k ∈ nilsOf s'.nx τ then ⟨0,0,0,[]⟩ else ρ' k:=⟨_,rfl⟩
  have hin:∀ k,k ∈ nilsOf s'.nx τ → ρn k=⟨0,0,0,[]⟩:=fun k hk=>by rw [hρn]; simp only; rw [if_pos hk]
  have hlow:∀ k,k < s'.nx → ρn k=ρ' k:=fun k hk=>by
    rw [hρn]; simp only; rw [if_neg fun hm=>by have:=nilsOf_ge hm; omega]
  have hnn:NilN ρn (nilsOf s'.nx τ):=fun k hk=>by rw [hin k hk]
  have hnx:s.nx≤s'.nx:=hs'.n0
  have hreg:∀ k own o,look s'.H k=some (own,o) → SatO ρn w' k own o∧ρn k=ρ' k:=fun k own o hl=>by
    have hb:=hs'.bnd.heap k own o hl
    exact⟨(hs'.heap.reg k own o hl).asg (hlow k hb.1) (fun n hn=>hlow n (hb.2 n hn)),hlow k hb.1⟩
  have hold:∀ k,k < s.nx → ρn (rnf τ k)=ρ k:=fun k hk=>by
    rw [hid k hk,hlow k (by omega)]; exact hs'.base k hk
  have hcase:∀ k own o,look (hp ++ deadH dead s.H) k=some (own,o) →
      (k ∈ keys hp∧rnf τ k ∈ nilsOf s'.nx τ∧nilO o) ∨
      (∃ own' o',look s'.H (rnf τ k)=some (own',o')∧(own=true → own'=true)∧entO (nilsOf s'.nx τ) o' (o.ren (rnf τ))∧k ∈ keys hp) ∨
      (own=false∧o=.cells []∧k < s.nx) ∨
      (k < s.nx∧k ∉ keys hp∧k ∉ dead∧look s'.H k=some (own,o)∧∀ n,o.uses [n]=true → n < s.nx):=by
    intro k own o hl
    rw [look_append] at hl
    cases h1:look hp k with
    | some x =>
      rw [h1] at hl; simp at hl; subst hl
      rcases entH_get hhp h1 with ⟨hm,hn⟩ | ⟨_,own',o',h2,h3,h4⟩
      · exact .inl ⟨look_keys h1,hm,hn⟩
      · exact .inr (.inl ⟨own',o',h2,h3,h4,look_keys h1⟩)
    | none =>
      rw [h1] at hl; simp only [Option.none_or] at hl
      rw [look_deadH] at hl
      by_cases hd:k ∈ dead
      · rw [if_pos hd] at hl; simp at hl
        exact .inr (.inr (.inl ⟨hl.1,hl.2.symm,c6 k hd⟩))
      · rw [if_neg hd] at hl
        have hb:=hs.bnd.heap k own o hl
        have hkk:k ∉ keys hp:=fun hk=>by obtain ⟨x,hx⟩:=look_of_keys hk; rw [hx] at h1; cases h1
        exact .inr (.inr (.inr ⟨hb.1,hkk,hd,by rw [hbase k hb.1 hkk hd]; exact hl,hb.2⟩))
  have hsrc:∀ k own o,look (hp ++ deadH dead s.H) k=some (own,o) → 0 < o.room (ρn (rnf τ k)) →
      ∃ own' o',look s'.H (rnf τ k)=some (own',o')∧(own=true → own'=true)∧o'.room (ρ' (rnf τ k))=o.room (ρn (rnf τ k))∧ρn (rnf τ k)=ρ' (rnf τ k) ∧
        (k ∈ keys hp ∨ (k < s.nx∧k ∉ keys hp∧k ∉ dead))∧∀ r,o.fp r=o'.fp r:=by
    intro k own o hl hr
    rcases hcase k own o hl with ⟨_,hm,hn⟩ | ⟨own',o',h1,h2,h3,h4⟩ | ⟨_,rfl,_⟩ | ⟨h1,h2,h3,h4,_⟩
    · rw [(satO_nil (ρ:=fun k=>ρn (rnf τ k)) (w:=w') (own:=true) hn (hin _ hm)).2] at hr; omega
    · have e:=(hreg _ _ _ h1).2
      exact⟨own',o',h1,h2,by rw [e,← entO_room h3,SO.ren_room],e, .inl h4,ent_fp h3⟩
    · simp [SO.room] at hr
    · have e:=(hreg _ _ _ h4).2
      rw [hid k h1]
      exact⟨own,o,h4,id,by rw [e],e, .inr ⟨h1,h2,h3⟩,fun _=>rfl⟩
  have hne:∀ k own o k' own' o',look (hp ++ deadH dead s.H) k=some (own,o) → look (hp ++ deadH dead s.H) k'=some (own',o') → k ≠ k' →
      (k ∈ keys hp ∨ (k < s.nx∧k ∉ keys hp∧k ∉ dead)) → (k' ∈ keys hp ∨ (k' < s.nx∧k' ∉ keys hp∧k' ∉ dead)) → rnf τ k ≠ rnf τ k':=by
    intro k own o k' own' o' _ _ hkk h1 h2 he
    rcases h1 with h1 | ⟨h1,h1',h1''⟩ <;> rcases h2 with h2 | ⟨h2,h2',h2''⟩
    · exact hkk (hinj k h1 k' h2 he)
    · rw [hid k' h2] at he
      rcases c5 k h1 with h3 | h3 | h3
      · exact hkk (h3.symm.trans he)
      · omega
      · rw [he] at h3; exact h2'' h3
    · rw [hid k h1] at he
      rcases c5 k' h2 with h3 | h3 | h3
      · exact hkk (he.trans h3)
      · omega
      · rw [← he] at h3; exact h1'' h3
    · rw [hid k h1,hid k' h2] at he; exact hkk he
  refine⟨fun k=>ρn (rnf τ k),hs'.size, ?_, ?_,⟨hs'.heap.frm, ?_, ?_, ?_, ?_⟩,⟨?_, ?_, ?_⟩, ?_,hs'.keep,Nat.le_add_right _ _⟩
  · rw [hs'.defers,hmk]
    simp only [invSt,putAll_marks,Env.marks]
    refine (marks_agree' fun k hk=>?_).symm
    have h1:=hs.bnd.mks k hk
    rw [hid k h1,hlow k (by omega)]
  · intro i
    simp only [invSt]
    rcases putAll_get (st:=st) (e:=.mask m s.e) (i:=i) with ⟨v,hv,he⟩ | he
    · rw [he]
      refine SV.ren_rel.1 (entSV_rel hnn (entSt_get hst i v hv) ?_)
      exact SV.rel_agree (fun k hk=>hlow k (hs'.bnd.env i k hk)) (hs'.env i)
    · rw [he,getD_map_mask]
      by_cases hb:bitAt m i=true
      · rw [if_pos hb]; trivial
      · rw [if_neg hb]
        have:=hs'.keep i (by simp [lcx,inMd,hb])
        rw [this]
        exact SV.rel_agree (fun k hk=>hold k (hs.bnd.env i k hk)) (hs.env i)
  · intro k own o hl
    rcases hcase k own o hl with ⟨_,hm,hn⟩ | ⟨own',o',h1,h2,h3,h4⟩ | ⟨rfl,rfl,_⟩ | ⟨h1,h2,h3,h4,h5⟩
    · exact (satO_nil (ρ:=fun k=>ρn (rnf τ k)) hn (hin _ hm)).1
    · exact (entO_sat hnn h3 ((hreg _ _ _ h1).1.less' h2)).of_ren
    · exact satO_dead _ _ _
    · refine (hreg _ _ _ h4).1.asg ?_ (fun n hn=>?_)
      · rw [hid k h1]
      · rw [hid n (h5 n hn)]
  · intro k k' o own' o' hkk hl hl' hr hr'
    obtain ⟨own1,o1,h1,h2,h3,h4,h5,h6⟩:=hsrc k true o hl hr
    obtain ⟨own2,o2,h1',h2',h3',h4',h5',h6'⟩:=hsrc k' own' o' hl' hr'
    have:=h2 rfl; subst this
    simp only [h4,h4',h6,h6']
    exact hs'.heap.apart _ _ _ _ _ (hne k _ _ k' _ _ hl hl' hkk h5 h5') h1 h1' (by rw [h3]; exact hr) (by rw [h3']; exact hr')
  · intro k o hl hr
    obtain ⟨own1,o1,h1,h2,h3,h4,h5,h6⟩:=hsrc k true o hl hr
    have:=h2 rfl; subst this
    simp only [h4,h6]
    exact hs'.heap.fresh _ _ h1 (by rw [h3]; exact hr)
  · intro k own o hl hr
    obtain ⟨own1,o1,h1,h2,h3,h4,h5,h6⟩:=hsrc k own o hl hr
    simp only [h4,h6]
    exact hs'.heap.valid _ _ _ h1 (by rw [h3]; exact hr)
  · intro i k hk
    simp only [invSt] at hk ⊢
    rcases putAll_get (st:=st) (e:=.mask m s.e) (i:=i) with ⟨v,hv,he⟩ | he
    · rw [he] at hk
      exact c3 k (mem_nmsSt hv (SV.uses_nms.1 hk))
    · rw [he,getD_map_mask] at hk
      by_cases hb:bitAt m i=true
      · rw [if_pos hb] at hk; simp [SV.uses,SC.uses,SC.nms,anyMem] at hk
      · rw [if_neg hb] at hk
        have:=hs.bnd.env i k hk
        omega
  · intro k hk
    simp only [invSt,putAll_marks,Env.marks] at hk ⊢
    have:=hs.bnd.mks k hk
    omega
  · intro k own o hl
    simp only [invSt] at hl ⊢
    rw [look_append] at hl
    cases h1:look hp k with
    | some x =>
      rw [h1] at hl; simp at hl; subst hl
      have:=look_nms h1
      exact⟨c4 k this.1,fun n hn=>c4 n (this.2 n (SO.uses_nms.1 hn))⟩
    | none =>
      rw [h1] at hl; simp only [Option.none_or] at hl
      rw [look_deadH] at hl
      by_cases hd:k ∈ dead
      · rw [if_pos hd] at hl; simp at hl
        obtain ⟨_,rfl⟩:=hl
        exact⟨by have:=c6 k hd; omega,fun n hn=>by simp [SO.uses,usesL] at hn⟩
      · rw [if_neg hd] at hl
        have hb:=hs.bnd.heap k own o hl
        exact⟨by omega,fun n hn=>by have:=hb.2 n hn; omega⟩
  · intro k hk
    exact hold k hk

def subMd (m:Nat):Option Nat → Bool
  | none=>true
  | some m0=>Nat.beq (Nat.land m m0) m

theorem subMd_get {m:Nat} {md:Option Nat} (h:subMd m md=true) {i:Nat} (hi:inMd md i=false):bitAt m i=false:=by
  cases md with
  | none=>cases hi
  | some m0 =>
    simp only [subMd] at h
    have:=Nat.eq_of_beq_eq_true h
    simp only [inMd] at hi
    rw [bitAt_testBit] at *
    have h2:(Nat.land m m0).testBit i=(m.testBit i && m0.testBit i):=Nat.testBit_and m m0 i
    rw [this,hi] at h2
    simpa using h2

def lenH:Heap → Nat
  | []=>0
  | _ :: r=>lenH r+1

def dropH:Nat → Heap → Heap
  | 0,H=>H
  | _+1,[]=>[]
  | n+1,_ :: r=>dropH n r

def frontOK (nx:Nat) (ks dead:List Nat):Nat → Heap → Bool
  | 0,_=>true
  | _+1,[]=>true
  | n+1,(k,_) :: r=>bif Nat.ble nx k then frontOK nx ks dead n r else bif memN k ks then frontOK nx ks dead n r else bif memN k dead then frontOK nx ks dead n r else false

def BackK (s:St) (nl:Nat) (dead:List Nat) (st:List (Nat × SV)) (hp:Heap) (s':St):Prop :=
  bif frontOK s.nx (keys hp) dead (lenH s'.H - lenH s.H) s'.H && eqNs s'.e.marks s.e.marks then dropH (lenH s'.H - lenH s.H) s'.H=s.H∧LoopK s nl dead st hp s' else False

theorem front_look {nx:Nat} {ks dead:List Nat}:∀ {n:Nat} {H H0:Heap},frontOK nx ks dead n H=true → dropH n H=H0 → ∀ k,k < nx → k ∉ ks → k ∉ dead → look H k=look H0 k
  | 0,H,H0,_,hd,_,_,_,_=>by simp only [dropH] at hd; rw [hd]
  | n+1,[],H0,_,hd,_,_,_,_=>by simp only [dropH] at hd; rw [← hd]
  | n+1,(j,x) :: r,H0,hf,hd,k,h1,h2,h3=>by
    simp only [frontOK] at hf
    simp only [dropH] at hd
    have hjk:k ≠ j∧frontOK nx ks dead n r=true:=by
      cases q1:Nat.ble nx j with
      | true=>simp [q1] at hf; exact⟨by have:=Nat.le_of_ble_eq_true q1; omega,hf⟩
      | false =>
        simp only [q1,cond_false] at hf
        cases q2:memN j ks with
        | true=>simp [q2] at hf; exact⟨by rintro rfl; exact h2 (memN_iff.1 q2),hf⟩
        | false =>
          simp only [q2,cond_false] at hf
          cases q3:memN j dead with
          | true=>simp [q3] at hf; exact⟨by rintro rfl; exact h3 (memN_iff.1 q3),hf⟩
          | false=>simp [q3] at hf
    rw [look_cons,if_neg hjk.1]
    exact front_look hjk.2 hd k h1 h2 h3

def loopK (cx:Cx) (B:Tabs) (b:Code) (Q:Exit → St → Prop) (s:St) {G:Type} (nl:Nat) (dead:List Nat) (st:G → List (Nat × SV)) (hp:G → Heap) (I:G → Prop) (μ:G → Nat):Prop :=
  forceN (modC b 0) fun m=>bif subMd m cx.md then
    (∃ g,I g∧LoopK s nl dead (st g) (hp g) s) ∧
    (∀ g,I g → ∀ ρ t0,(∀ k,k < cx.n0 → ρ k=cx.ρ0 k) → forceSt s m nl dead (st g) (hp g) fun s1=>vc (lcx cx s.nx m ρ t0) B b (fun ex s'=>match ex with
      | .normal=>∃ g',I g'∧μ g' < μ g∧BackK s nl dead (st g') (hp g') s'
      | ex=>Q ex s') s1)
  else False

theorem Sat.out {cx:Cx} {ρ ρ':Asg} {s s':St} {a a':Act} {w w':World} {m:Nat} (hs:Sat cx ρ s a w) (hm:subMd m cx.md=true) (h:Sat (lcx cx s.nx m ρ a.tmps) ρ' s' a' w'):Sat cx ρ' s' a' w' :=
  { size:=h.size,defers:=h.defers,env:=h.env,heap:=h.heap,bnd:=h.bnd
    base:=fun k hk=>(h.base k (Nat.lt_of_lt_of_le hk hs.n0)).trans (hs.base k hk)
    keep:=fun i hi=>(h.keep i (by have:=subMd_get hm hi; simpa [lcx,inMd] using this)).trans (hs.keep i hi)
    n0:=Nat.le_trans hs.n0 h.n0 }

theorem loop_step {cx:Cx} {B:Tabs} (hB:TabsOK cx.P B) {b:Code} {Q:Exit → St → Prop} {s:St} {G:Type} (nl:Nat) (dead:List Nat) (st:G → List (Nat × SV)) (hp:G → Heap) (I:G → Prop) (μ:G → Nat)
    (h:loopK cx B b Q s nl dead st hp I μ):Sound cx (.loop b) Q s:=by
  refine⟨fun ρ a w hs QQ hQ=>?_⟩
  simp only [loopK,forceN_eq] at h
  generalize modC b 0=m at h
  obtain ⟨hm,⟨g0,hg0,h0⟩,hstep⟩:=bif_and h
  simp only [forceSt_eq] at hstep
  have hs1:Sat (lcx cx s.nx m ρ a.tmps) ρ s a w :=
    { size:=hs.size,defers:=hs.defers,env:=hs.env,heap:=hs.heap,bnd:=hs.bnd,base:=fun _ _=>rfl,keep:=fun _ _=>rfl,n0:=Nat.le_refl _ }
  obtain ⟨ρ1,h1⟩:=ent_sat hs hs1 h0 (fun _ _ _ _=>rfl) rfl
  refine wpIn_loop_rounds (μ g0+1) ?_
  have key:∀ n g ρ' a' w',μ g < n → I g → Sat (lcx cx s.nx m ρ a.tmps) ρ' (invSt s m nl dead (st g) (hp g)) a' w' → Code.roundsIn (fen cx.rd) 0 cx.P b QQ n a' w':=by
    intro n
    induction n with
    | zero=>intro g ρ' a' w' h; omega
    | succ n ih =>
      intro g ρ' a1 w1 hlt hg hsat
      refine (vc_sound (cx:=lcx cx s.nx m ρ a.tmps) hB b _ _ (hstep g hg ρ a.tmps hs.base)).h ρ' a1 w1 hsat _ ?_
      intro ex s' ρ2 a2 w2 hq hs2
      cases ex with
      | normal =>
        obtain ⟨g',hg',hlt',hback⟩:=hq
        obtain ⟨hf,hd,hK⟩:=bif_and hback
        simp only [Bool.and_eq_true] at hf
        obtain ⟨ρ3,h3⟩:=ent_sat hs hs2 hK (front_look hf.1 hd) (eqNs_eq hf.2)
        exact ih g' ρ3 a2 w2 (by omega) hg' h3
      | _=>exact hQ _ _ _ _ _ hq (hs.out hm hs2)
  exact key _ g0 ρ1 a w (Nat.lt_succ_self _) hg0 h1

end Sx
end Go

namespace Go
namespace Sx

def mksK (B:Tabs) (A:Arr) (t:TypeId) (x y:SV) (nx:Nat) (K:Eff → Prop):Prop :=
  match lookT B.T t,x,y with
  | some ⟨.slice el,_,_,_⟩, .c (.v (.int _ n)), .c (.v (.int _ m))=>(match lookT B.T el with
    | some ti=>bif Nat.beq ti.size 1 && Nat.beq A.sz 1 then
        ∃ N:Nat,(A.xs.length=N∧n=(N:Int)∧m=(N:Int)∧N * (ti.bytes+1)≤140737488355328∧∀ x ∈ A.xs,entL [] (ti.zero.map cC) (A.enc x)) ∧
        K ⟨.c (.s nx 0 N 1),[],[(nx,true, .arr A)],[nx]⟩ else False
    | none=>False)
  | _,_,_=>False

theorem entL_rel0 {ρ:Asg} {l l':List SC} {vs:List Value} (h:entL [] l l') (hr:relL ρ l vs):relL ρ l' vs:=entL_rel (by intro k hk; cases hk) h hr

theorem mks_step {cx:Cx} {B:Tabs} (hB:TabsOK cx.P B) {o:Oper} {e:Env} {H:Heap} {nx:Nat} {K:Eff → Prop} {x y:Operand} {t:TypeId} (A:Arr)
    (hA:A.nm=[]) (ho:o.op=.makeSlice t x y) (h:mksK B A t (ev e x) (ev e y) nx K) (hfx:A.fx=none:=by rfl) (hty:A.ty=none:=by rfl):∃ F,CallOK cx o e H nx F∧K F:=by
  have hx:x ∈ o.op.operands.toList:=by simp [ho,Op.operands]
  have hy:y ∈ o.op.operands.toList:=by simp [ho,Op.operands]
  unfold mksK at h
  split at h
  · rename_i el s0 b0 z0 kn n km m ht hex hey
    split at h
    · rename_i ti hti
      obtain ⟨hb,N,⟨rfl,hn,hm,h1,h2⟩,hK⟩:=bif_and h
      simp only [Bool.and_eq_true] at hb
      have hs1:=Nat.eq_of_beq_eq_true hb.1
      have hs2:=Nat.eq_of_beq_eq_true hb.2
      refine⟨_,⟨loc_new (by simp [ho]) below_s ?_ ?_,fun j hj=>by simp at hj; subst hj; simp⟩,hK⟩
      · intro n' _ j hj
        simp only [SO.uses,hA] at hj; cases hj
      · intro ρ a w hr _
        obtain ⟨i,z,hi,hz,hisz,hiby,hzz⟩:=ti_parts hB hti
        have hx1:=reads_fit hx hr; rw [hex] at hx1; simp only [SV.rel,SC.rel] at hx1
        have hy1:=reads_fit hy hr; rw [hey] at hy1; simp only [SV.rel,SC.rel] at hy1
        have hbd:A.xs.length * ti.bytes≤140737488355328:=Nat.le_trans (Nat.mul_le_mul_left _ (Nat.le_succ _)) h1
        have hln:A.xs.length * 1≤140737488355328:=Nat.le_trans (Nat.mul_le_mul_left _ (by omega)) h1
        have hrun:=run_make (P:=cx.P) w t el i z (und_slice hB ht) hi hz kn km n m (by omega) (by omega) (by
          rw [hm,hiby]
          have h9:((ti.bytes * A.xs.length:Nat):Int)≤281474976710656:=by rw [Nat.mul_comm]; omega
          rwa [Int.natCast_mul] at h9) (by omega)
        have hzsz:z.cells.size=1:=by
          have:=congrArg List.length hzz
          rw [hB.zsz el ti hti,hs1] at this
          simpa using this
        refine⟨.slice (some ⟨w.heap.size,0,none⟩) A.xs.length A.xs.length, .cells (madeCells z.cells (A.xs.length * 1)) el (0,0),A.xs.length, ?_, ?_,satO_new_arr (Nat.le_refl _) (by rw [size_madeCells,hs2]) ?_ (fun n h=>by rw [hfx] at h; cases h) (fun n h=>by rw [hty] at h; cases h)⟩
        · simp only [execOp,ho,hx1,hy1,Sem.run_bind,hrun,Result.andThen_ok,Sem.run_pure]
          rw [hn,hm,hisz,hs1]
          rfl
        · simp only [SV.rel,SC.rel,upd_eq,Nat.sub_zero,Nat.zero_mul,Nat.zero_add,hn,hm,Int.toNat_natCast]
          exact⟨_,rfl,Nat.le_refl _,fun _=>by simp [adr,upd_eq]⟩
        · intro i' xx hxx j d hd
          have hxm:=List.mem_of_getElem? hxx
          have hlt:i' < A.xs.length:=(List.getElem?_eq_some_iff.1 hxx).1
          have hj:j < 1:=by have h8:=(List.getElem?_eq_some_iff.1 hd).1; have h9:=A.hl xx; omega
          have hj0:j=0:=by omega
          subst hj0
          have hrl:relL (upd ρ nx ⟨w.heap.size,0,A.xs.length,[]⟩) (A.enc xx) z.cells.toList:=entL_rel0 (h2 xx hxm) (by rw [hzz]; exact relL_map_cC _ _)
          obtain ⟨v,hv,hvr⟩:=relL_get hrl hd
          refine⟨v, ?_,hvr⟩
          rw [hs2]
          have hv':z.cells[0]? = some v:=by simpa using hv
          have hv2:z.cells[0]! = v:=by
            rw [getElem!_def,hv']
          obtain ⟨h0,hv3⟩:=Array.getElem?_eq_some_iff.1 hv'
          simp [madeCells,hlt,hzsz,Nat.mod_one,hv3]
    · exact h.elim
  · exact h.elim

def fillR (sz:Nat):List SC → List (Nat × SV) → Option (List SC)
  | cells,[]=>some cells
  | cells,(i,v) :: rest=>match cellsOf v with
    | some l=>bif Nat.beq l.length sz && Nat.ble (i * sz+l.length) cells.length then fillR sz (splice cells (i * sz) l) rest else none
    | none=>none

def encAll (A:Arr):List A.α → List SC
  | []=>[]
  | x :: r=>A.enc x ++ encAll A r

def junks:Nat → List SC
  | 0=>[]
  | n+1=>.junk :: junks n

def bsK (B:Tabs) (A:Arr) (e:Env) (t:TypeId) (len:Nat) (parts:List (Nat × Operand)) (nx:Nat) (K:Eff → Prop):Prop :=
  match lookT B.T t with
  | some ⟨.slice el,_,_,_⟩=>(match lookT B.T el with
    | some ti=>(match fillR ti.size (junks (len * ti.size)) (evParts e parts) with
      | some l=>bif Nat.beq ti.size A.sz && (Nat.ble 1 ti.size && Nat.ble (len * ti.size) 16777216) then
          (A.xs.length=len∧entL [] l (encAll A A.xs))∧K ⟨.c (.s nx 0 len ti.size),[],[(nx,true, .arr A)],[nx]⟩ else False
      | none=>False)
    | none=>False)
  | _=>False

theorem encAll_get {A:Arr}:∀ {xs:List A.α} {i j:Nat} {x:A.α} {c:SC},xs[i]? = some x → (A.enc x)[j]? = some c → (encAll A xs)[i * A.sz+j]? = some c
  | [],i,_,_,_,h,_=>by simp at h
  | y :: r,0,j,x,c,h,hc=>by
    simp at h; subst h
    simp only [encAll,Nat.zero_mul,Nat.zero_add]
    have hj:j < (A.enc y).length:=(List.getElem?_eq_some_iff.1 hc).1
    rw [List.getElem?_append_left hj]; exact hc
  | y :: r,i+1,j,x,c,h,hc=>by
    simp only [encAll]
    have hl:=A.hl y
    have:(i+1) * A.sz+j=(A.enc y).length+(i * A.sz+j):=by rw [hl,Nat.add_mul]; omega
    rw [this,List.getElem?_append_right (by omega),Nat.add_sub_cancel_left]
    exact encAll_get (by simpa using h) hc

theorem junks_rel {ρ:Asg}:∀ {vs:List Value},relL ρ (junks vs.length) vs
  | []=>trivial
  | _ :: _=>⟨trivial,junks_rel⟩

theorem fillR_ok {ρ:Asg} {e:Env} {a:Act} {sz:Nat} :
    ∀ (parts:List (Nat × Operand)) (cells:List SC) (cs:Array Value) (l:List SC),relL ρ cells cs.toList → (∀ p ∈ parts,(ev e p.2).rel ρ (a.eval p.2)) →
      fillR sz cells (evParts e parts)=some l → ∃ out,Instr.fill (fun i=>some (i * sz,sz)) cs (parts.map fun p=>(p.1,a.eval p.2))=some out∧relL ρ l out.toList
  | [],cells,cs,l,hc,_,h=>by simp [evParts,fillR] at h; subst h; exact⟨cs,by simp [Instr.fill],hc⟩
  | (i,x) :: parts,cells,cs,l,hc,hp,h=>by
    simp only [evParts,fillR] at h
    split at h
    · rename_i lx hlx
      cases hb:Nat.beq lx.length sz && Nat.ble (i * sz+lx.length) cells.length with
      | false=>simp [hb] at h
      | true =>
        simp only [hb,cond_true] at h
        simp only [Bool.and_eq_true] at hb
        have hlen:lx.length=sz:=Nat.eq_of_beq_eq_true hb.1
        have hle:i * sz+lx.length≤cells.length:=Nat.le_of_ble_eq_true hb.2
        have hx:=(cellsOf_rel hlx (hp (i,x) (List.mem_cons_self ..))).1
        have hl1:=relL_length hx
        have hl2:=relL_length hc
        have hsz:(a.eval x).cells.size=sz:=by simp at hl1; omega
        have hfit:i * sz+(a.eval x).cells.size≤cs.size:=by simp at hl1 hl2; omega
        have hf:=fold_set (a.eval x).cells.toList 0 cs (i * sz) (by simpa using hfit)
        have hrel:relL ρ (splice cells (i * sz) lx) (((a.eval x).cells.toList.zipIdx 0).foldl (fun cs (p:Value × Nat)=>cs.setIfInBounds (i * sz+p.2) p.1) cs).toList:=by
          rw [hf]; simpa using relL_splice (o:=i * sz) hc hx
        obtain ⟨out,ho,hr⟩:=fillR_ok parts (splice cells (i * sz) lx) _ l hrel (fun p hpm=>hp p (List.mem_cons_of_mem _ hpm)) h
        refine⟨out, ?_,hr⟩
        simp only [List.map_cons,Instr.fill]
        rw [if_neg (by simp [hsz]; omega)]
        rw [← ho]
        congr 1
        rw [← Array.foldl_toList,Array.toList_zipIdx]
    · cases h

theorem bs_step {cx:Cx} {B:Tabs} (hB:TabsOK cx.P B) {o:Oper} {e:Env} {H:Heap} {nx:Nat} {K:Eff → Prop} {t:TypeId} {len:Nat} {parts:Array (Nat × Operand)} (A:Arr)
    (hA:A.nm=[]) (ho:o.op=.buildSlice t len parts) (h:bsK B A e t len parts.toList nx K) (hfx:A.fx=none:=by rfl) (hty:∀ el s b z t',lookT B.T t=some ⟨.slice el,s,b,z⟩ → A.ty=some t' → el=t':=by intro _ _ _ _ _ _ h; cases h):∃ F,CallOK cx o e H nx F∧K F:=by
  have hmem:∀ p ∈ parts.toList,p.2 ∈ o.op.operands.toList:=fun p hp=>by
    simp [ho,Op.operands]; exact⟨p.1,by simpa using hp⟩
  unfold bsK at h
  split at h
  · rename_i el s0 b0 z0 ht
    split at h
    · rename_i ti hti
      split at h
      · rename_i l hl
        obtain ⟨hb,⟨hlen,hent⟩,hK⟩:=bif_and h
        simp only [Bool.and_eq_true] at hb
        have hb1:=Nat.eq_of_beq_eq_true hb.1
        have hb2:=Nat.le_of_ble_eq_true hb.2.1
        have hb3:=Nat.le_of_ble_eq_true hb.2.2
        refine⟨_,⟨loc_new (by simp [ho]) below_s ?_ ?_,fun j hj=>by simp at hj; subst hj; simp⟩,hK⟩
        · intro n' _ j hj
          simp only [SO.uses,hA] at hj; cases hj
        · intro ρ a w hr hfr
          obtain ⟨i,z,hi,hz,hisz,hiby,hzz⟩:=ti_parts hB hti
          have hr':∀ p ∈ parts.toList,(ev e p.2).rel (upd ρ nx ⟨w.heap.size,0,len,[]⟩) (a.eval p.2):=by
            intro p hp
            refine SV.rel_upd' (reads_fit (hmem p hp) hr) ?_
            have hm:=hmem p hp
            cases hx:p.2 with
            | tmp t=>rw [hx] at hm; exact hfr t hm
            | const v=>exact evC_uses v _
            | global g=>simp [ev,SV.uses,SC.uses,SC.nms,anyMem]
            | func g=>simp [ev,SV.uses,SC.uses,SC.nms,anyMem]
          have hinit:((Array.range (len * i.size)).map (z.cells[· % z.cells.size]!)).size=len * ti.size:=by simp [hisz]
          obtain ⟨out,hout,hrel⟩:=fillR_ok (ρ:=upd ρ nx ⟨w.heap.size,0,len,[]⟩) (a:=a) (e:=e) (sz:=ti.size) parts.toList (junks (len * ti.size)) ((Array.range (len * i.size)).map (z.cells[· % z.cells.size]!)) l
            (by have:=@junks_rel (upd ρ nx ⟨w.heap.size,0,len,[]⟩) ((Array.range (len * i.size)).map (z.cells[· % z.cells.size]!)).toList; rwa [Array.length_toList,hinit] at this) hr' hl
          have hlo:=relL_length hrel
          have hrelA:=entL_rel0 hent hrel
          have hlA:=relL_length hrelA
          have hencl:∀ xs:List A.α,(encAll A xs).length=xs.length * A.sz:=by
            intro xs; induction xs with
            | nil=>simp [encAll]
            | cons x r ih=>simp only [encAll,List.length_append,ih,A.hl,List.length_cons,Nat.add_mul]; omega
          refine⟨.slice (some ⟨w.heap.size,0,none⟩) len len, .cells out el (0,0),len, ?_, ?_,satO_new_arr (by omega) ?_ ?_ (fun n h=>by rw [hfx] at h; cases h) (fun t' h=>hty _ _ _ _ t' ht h)⟩
          · have hsz:(sizeOf el).run cx.P w=.ok i.size w:=by simp [sizeOf,typeInfo,hi]
            have hle:¬ (len * i.size > 2 ^ 24):=by rw [hisz]; omega
            have h2:(Array.map (fun x=>(x.fst,a.eval x.snd)) parts).toList=parts.toList.map fun p=>(p.1,a.eval p.2):=by simp
            simp only [execOp,ho,Instr.buildSlice,Sem.run_bind,run_underlying (und_slice hB ht),Result.andThen_ok,hsz,if_neg hle,h2]
            by_cases h0:len * i.size=0
            · have hl0:len=0:=by
                rcases Nat.mul_eq_zero.1 h0 with h | h
                · exact h
                · omega
              subst hl0
              simp only [Nat.zero_mul,if_true,Sem.run_pure,Result.andThen_ok]
              simp only [Nat.zero_mul] at hout
              rw [← hisz] at hout
              have e0:(Array.map (fun x=>(#[]:Array Value)[x % (#[]:Array Value).size]!) (Array.range 0))=(Array.map (fun x=>z.cells[x % z.cells.size]!) (Array.range 0)):=by simp
              simp only [e0,hout,Sem.run_bind,newRow,newObj,Sem.run,Result.andThen_ok,Sem.run_pure]
              rfl
            · have hzr:(zeroValue el).run cx.P w=.ok z w:=by simp [zeroValue,typeInfo,hi,hz]
              rw [← hisz] at hout
              simp only [if_neg h0,Sem.run_bind,hzr,Result.andThen_ok,Sem.run_pure,hout,newRow,newObj,Sem.run]
              rfl
          · simp only [SV.rel,SC.rel,upd_eq,Nat.sub_zero,Nat.zero_mul,Nat.zero_add]
            exact⟨_,rfl,Nat.le_refl _,fun _=>by simp [adr,upd_eq]⟩
          · rw [hencl] at hlA; rw [← hlen]; simpa using hlA.symm
          · intro i' xx hxx j d hd
            obtain ⟨v,hv,hvr⟩:=relL_get hrelA (encAll_get hxx hd)
            exact⟨v,by simpa using hv,hvr⟩
      · exact h.elim
    · exact h.elim
  · exact h.elim

end Sx
end Go

namespace Go
namespace Sx

def recO (fn:FuncId) (T0:Array Value) (ps:Array Tmp) (asg body:Code) (d:Nat):SO :=
  .raw (fun x=>x=.loop { state:=.ready,pending:=none,fn:=fn,tmps:=T0,params:=ps,assign:=asg,body:=body,defers:=d })
def busyO (fn:FuncId) (T0:Array Value) (ps:Array Tmp) (asg body:Code) (d:Nat):SO :=
  .raw (fun x=>x=.loop { state:=.busy,pending:=none,fn:=fn,tmps:=T0,params:=ps,assign:=asg,body:=body,defers:=d })
def dfrO:SO:=.raw (fun x=>x=.deferred (some []))

theorem Sat.setObj {cx:Cx} {ρ:Asg} {s:St} {a:Act} {w:World} (h:Sat cx ρ s a w) {k:Nat} {Φ Φ':Obj → Prop} (hl:look s.H k=some (true, .raw Φ)) (o:Obj) (ho:Φ' o) :
    Sat cx ρ { s with H:=(k,true, .raw Φ') :: s.H } a (w.putObj (ρ k).blk o):=by
  have hr:0 < (SO.raw Φ).room (ρ k):=by simp [SO.room]
  have hv:=h.heap.valid k true _ hl hr _ blk_fp
  have hne:∀ b,b ≠ (ρ k).blk → (w.putObj (ρ k).blk o).heap[b]? = w.heap[b]?:=fun b hb=>World.putObj_heap_other hb
  have hd:∀ j own' p,look s.H j=some (own',p) → j ≠ k → 0 < p.room (ρ j) → ∀ b ∈ p.fp (ρ j),b ≠ (ρ k).blk:=fun j own' p hj hjk hpr b hb he =>
    h.heap.apart k j _ own' p (Ne.symm hjk) hl hj hr hpr (ρ k).blk blk_fp (he ▸ hb)
  have hk:=(h.bnd.heap k true _ hl).1
  exact { size := h.size, defers := h.defers, env := h.env
          heap:=h.heap.cons (fun j own q _ _=>⟨rfl,fun _ _=>rfl⟩) (by rw [World.putObj_size]; exact Nat.le_refl _)
            ⟨by rw [World.putObj_size]; exact h.heap.frm.size,fun b hb hM=>by
              rw [hne b (by
                rintro rfl
                rcases h.heap.fresh k _ hl hr _ blk_fp with h1 | h1
                · omega
                · exact hM h1)]
              exact h.heap.frm.same b hb hM,h.heap.frm.io,h.heap.frm.quiet⟩
            (fun b _ hb=>hne b hb) rfl (fun j own' q hj hjk hq _=>hd j own' q hj hjk hq) (fun j own' q hj hjk hq b hb=>hne _ (hd j own' q hj hjk hq b hb))
            ⟨trivial,(fun i j c hc=>by simp [SO.cell?] at hc),(fun _ hx=>absurd rfl (hx Φ')),(fun _=>(h.heap.reg k true _ hl).off0 rfl),(fun Ψ hΨ=>by
              cases hΨ
              exact⟨o,World.putObj_heap_same hv,ho⟩),(fun _ hb=>by cases hb),(fun _ hb=>by cases hb),(fun _ hb=>by cases hb)⟩
            (fun _ _=>h.heap.fresh k _ hl hr _ blk_fp) (fun _=>by rw [World.putObj_size]; exact hv)
          bnd:=h.bnd.cons hk (by intro j hj; simp [SO.uses] at hj),base:=h.base,keep:=h.keep,n0:=h.n0 }

theorem Sat.newObj {cx:Cx} {ρ:Asg} {s:St} {a:Act} {w:World} (h:Sat cx ρ s a w) {Φ:Obj → Prop} (o:Obj) (ho:Φ o) :
    Sat cx (upd ρ s.nx ⟨w.heap.size,0,0,[]⟩) { s with H:=(s.nx,true, .raw Φ) :: s.H,nx:=s.nx+1 } a (push w o) :=
  h.new (cap:=0) (o:=.raw Φ) (ob:=o) (by intro j hj; simp [SO.uses] at hj)
    ⟨trivial,(fun i j c hc=>by simp [SO.cell?] at hc),(fun _ hx=>absurd rfl (hx Φ)),(fun _=>by rw [upd_eq]),(fun Ψ hΨ=>by
      cases hΨ
      rw [upd_eq]
      exact⟨o,push_new w o,ho⟩),(fun _ hb=>by cases hb),(fun _ hb=>by cases hb),(fun _ hb=>by cases hb)⟩

structure RoundT (P:Program) (nt:Nat) (stO:List (Nat × SV)) (ps:Array Tmp) (asg body:Code) (args:List SV) (pre:Heap) (np:Nat) (post:Heap):Prop where
  h:∀ (fn:FuncId) (T0:Array Value) (d:Nat) (ρ:Asg) (w:World) (vals:Array Value),T0.size=nt → (∀ i sv,(i,sv) ∈ stO → sv.rel ρ (T0.getD i undef)) → relVs ρ args vals.toList → vals.size=ps.size →
    SatH w (ownB ρ ((0,true,recO fn T0 ps asg body d) :: pre)) ρ ((0,true,recO fn T0 ps asg body d) :: pre) w →
    RoundIn Fence.wide 0 P (ρ 0).blk fn ((ps.zip vals).foldl (fun tmps (t,a)=>tmps.setIfInBounds t a) T0) asg body w
      fun e w'=>∃ ρ',(∀ k,k < np → ρ' k=ρ k)∧e=.returned (.bool true)∧SatH w (ownB ρ ((0,true,recO fn T0 ps asg body d) :: pre)) ρ' ((0,true,recO fn T0 ps asg body d) :: post) w'

def putPs:List Nat → List SV → Env → Env
  | p :: ps,a :: avs,e=>putPs ps avs (.put p a e)
  | _,_,e=>e

def envS:List (Nat × SV) → Env
  | []=>.nil
  | (i,v) :: r=>.put i v (envS r)

def allLtP (n:Nat):List Nat → Bool
  | []=>true
  | x :: r=>bif Nat.blt x n then allLtP n r else false

def roundK (cx:Cx) (B:Tabs) (asg body:Code) (np:Nat) (R R':SO) (post:Heap) (s:St):Prop :=
  vc cx B asg (fun ex s1=>match ex with
    | .normal=>(match s1,look s1.H 0 with
      | ⟨e,H,nx⟩,some (true,o)=>o=R∧vc cx B body (fun ex s2=>match ex with
          | .normal=>(match s2,look s2.H 0 with
            | ⟨_,H,nx⟩,some (true,o)=>o=R'∧RetE (.c (.b true)) ((0,true,R) :: H) nx np (.c (.b true)) ((0,true,R) :: post)
            | _,_=>False)
          | _=>False) ⟨e,(0,true,R') :: H,nx⟩
      | _,_=>False)
    | _=>False) s

theorem putPs_marks:∀ {ps:List Nat} {avs:List SV} {e:Env},(putPs ps avs e).marks=e.marks
  | [],_,_=>by simp [putPs]
  | _ :: _,[],_=>by simp [putPs]
  | p :: ps,a :: avs,e=>by simp only [putPs]; rw [putPs_marks]; rfl
theorem envS_marks:∀ {l:List (Nat × SV)},(envS l).marks=[]
  | []=>rfl
  | _ :: l=>envS_marks (l:=l)

theorem envS_get:∀ {l:List (Nat × SV)} {i:Nat},(∃ v,(i,v) ∈ l∧(envS l).get i=v) ∨ (envS l).get i=.c .junk
  | [],_=>.inr rfl
  | (j,v) :: r,i=>by
    simp only [envS]
    rw [get_put]
    by_cases h:i=j
    · rw [if_pos h]; exact .inl ⟨v,by simp [h],rfl⟩
    · rw [if_neg h]
      rcases envS_get (l:=r) (i:=i) with ⟨u,hu,he⟩ | he
      · exact .inl ⟨u,List.mem_cons_of_mem _ hu,he⟩
      · exact .inr he

theorem putPs_rel {ρ:Asg} {nt:Nat}:∀ {ps:List Nat} {avs:List SV} {vs:List Value} {e:Env} {T:Array Value},T.size=nt → (∀ p ∈ ps,p < nt) → ps.length=vs.length → relVs ρ avs vs → (∀ i,(e.get i).rel ρ (T.getD i undef)) →
    ((ps.zip vs).foldl (fun tmps (t,a)=>tmps.setIfInBounds t a) T).size=nt ∧
      ∀ i,((putPs ps avs e).get i).rel ρ (((ps.zip vs).foldl (fun tmps (t,a)=>tmps.setIfInBounds t a) T).getD i undef)
  | [],avs,vs,e,T,hs,_,_,_,h=>by
    simp only [putPs,List.zip_nil_left,List.foldl_nil]
    exact⟨hs,h⟩
  | p :: ps,[],[],_,_,_,_,hl,_,_=>by simp at hl
  | p :: ps,[],_ :: _,_,_,_,_,_,hr,_=>hr.elim
  | p :: ps,_ :: _,[],_,_,_,_,_,hr,_=>hr.elim
  | p :: ps,a :: avs,v :: vs,e,T,hs,hp,hl,hr,h=>by
    simp only [putPs,List.zip_cons_cons,List.foldl_cons]
    have hp0:=hp p (by simp)
    refine putPs_rel (by simp [hs]) (fun q hq=>hp q (by simp [hq])) (by simpa using hl) hr.2 ?_
    intro i
    rw [get_put]
    by_cases hi:i=p
    · subst hi
      rw [if_pos rfl]
      have:(T.setIfInBounds i v).getD i undef=v:=by simp [Array.getD_eq_getD_getElem?,hs,hp0]
      rw [this]; exact hr.1
    · rw [if_neg hi]
      have:(T.setIfInBounds p v).getD i undef=T.getD i undef:=by
        have:¬ p=i:=fun hh=>hi hh.symm
        simp [Array.getD_eq_getD_getElem?,Array.getElem?_setIfInBounds,this]
      rw [this]; exact h i

theorem putPs_uses:∀ {ps:List Nat} {avs:List SV} {e:Env} {i k:Nat},((putPs ps avs e).get i).uses [k]=true → (∃ a ∈ avs,a.uses [k]=true) ∨ (e.get i).uses [k]=true
  | [],_,_,_,_,h=>.inr (by simpa [putPs] using h)
  | _ :: _,[],_,_,_,h=>.inr (by simpa [putPs] using h)
  | p :: ps,a :: avs,e,i,k,h=>by
    simp only [putPs] at h
    rcases putPs_uses h with ⟨b,hb,hu⟩ | hu
    · exact .inl ⟨b,List.mem_cons_of_mem _ hb,hu⟩
    · rw [get_put] at hu
      by_cases hi:i=p
      · rw [if_pos hi] at hu; exact .inl ⟨a,by simp,hu⟩
      · rw [if_neg hi] at hu; exact .inr hu

theorem round_of {P:Program} {B:Tabs} (hB:TabsOK P B) {nt:Nat} {stO:List (Nat × SV)} {ps:Array Tmp} {asg body:Code} {args:List SV} {pre:Heap} {np:Nat} {post:Heap}
    (hn:(allLt np (nmsV args) && (allLt np (nmsH pre) && (allLt np (nmsSt stO) && (allLtP nt ps.toList && Nat.ble 1 np))))=true)
    (h:∀ (Φ Φ':Obj → Prop) (ρ:Asg) (w:World),roundK ⟨P,w,ownB ρ ((0,true, .raw Φ) :: pre),nt,some (ρ 0).blk,ρ,np,none,#[],[]⟩ B asg body np (.raw Φ) (.raw Φ') post
      ⟨putPs ps.toList args (envS stO),(0,true, .raw Φ) :: pre,np⟩) :
    RoundT P nt stO ps asg body args pre np post where
  h fn T0 d ρ w vals hT hO hv hsz hH:=by
    simp only [Bool.and_eq_true] at hn
    obtain ⟨n1,n2,n3,n4,n5⟩:=hn
    have n1:=allLt_iff.1 n1
    have n2:=allLt_iff.1 n2
    have n3:=allLt_iff.1 n3
    have n5:=Nat.le_of_ble_eq_true n5
    have n4:∀ p ∈ ps.toList,p < nt:=by
      clear h hsz
      revert n4
      generalize ps.toList=l
      intro n4
      induction l with
      | nil=>simp
      | cons x r ih =>
        simp only [allLtP] at n4
        cases hb:Nat.blt x nt with
        | false=>simp [hb] at n4
        | true =>
          simp [hb] at n4
          intro p hp
          rcases List.mem_cons.1 hp with rfl | hp
          · exact Eq.mp Nat.blt_eq hb
          · exact ih n4 p hp
    have hK:=h (fun x=>x=.loop { state:=.ready,pending:=none,fn:=fn,tmps:=T0,params:=ps,assign:=asg,body:=body,defers:=d }) (fun x=>x=.loop { state:=.busy,pending:=none,fn:=fn,tmps:=T0,params:=ps,assign:=asg,body:=body,defers:=d }) ρ w
    have hK:roundK ⟨P,w,ownB ρ ((0,true,recO fn T0 ps asg body d) :: pre),nt,some (ρ 0).blk,ρ,np,none,#[],[]⟩ B asg body np (recO fn T0 ps asg body d) (busyO fn T0 ps asg body d) post ⟨putPs ps.toList args (envS stO),(0,true,recO fn T0 ps asg body d) :: pre,np⟩:=hK
    generalize hcx:(⟨P,w,ownB ρ ((0,true,recO fn T0 ps asg body d) :: pre),nt,some (ρ 0).blk,ρ,np,none,#[],[]⟩:Cx)=cx at hK
    have e1:cx.P=P:=by rw [← hcx]
    have e2:cx.rd=some (ρ 0).blk:=by rw [← hcx]
    have hB':TabsOK cx.P B:=by rw [e1]; exact hB
    have hput:=putPs_rel (ρ:=ρ) (nt:=nt) (ps:=ps.toList) (avs:=args) (vs:=vals.toList) (e:=envS stO) (T:=T0) hT n4 (by simp [hsz]) hv (fun i=>by
      rcases envS_get (l:=stO) (i:=i) with ⟨v,hm,he⟩ | he
      · rw [he]; exact hO i v hm
      · rw [he]; trivial)
    have hfold:(ps.zip vals).foldl (fun tmps (t,a)=>tmps.setIfInBounds t a) T0=(ps.toList.zip vals.toList).foldl (fun tmps (t,a)=>tmps.setIfInBounds t a) T0:=by
      rw [← Array.foldl_toList,Array.toList_zip]
    rw [hfold]
    have hs:Sat cx ρ ⟨putPs ps.toList args (envS stO),(0,true,recO fn T0 ps asg body d) :: pre,np⟩ { tmps:=(ps.toList.zip vals.toList).foldl (fun tmps (t,a)=>tmps.setIfInBounds t a) T0,defers:=[] } w:=by
      rw [← hcx]
      refine⟨hput.1,by simp [putPs_marks,envS_marks],hput.2,hH,⟨?_,by simp only [putPs_marks,envS_marks]; simp, ?_⟩,fun _ _=>rfl,(fun _ h=>by cases h),Nat.le_refl _⟩
      · intro i k hk
        rcases putPs_uses hk with ⟨a,ha,hu⟩ | hu
        · exact n1 k (mem_nmsV ha (SV.uses_nms.1 hu))
        · rcases envS_get (l:=stO) (i:=i) with ⟨v,hm,he⟩ | he
          · rw [he] at hu; exact n3 k (mem_nmsSt hm (SV.uses_nms.1 hu))
          · rw [he] at hu; simp [SV.uses,SC.uses,SC.nms,anyMem] at hu
      · intro k own o hl
        rw [look_cons] at hl
        by_cases hk:k=0
        · rw [if_pos hk] at hl; simp at hl; obtain ⟨_,rfl⟩:=hl
          subst hk
          exact⟨n5,fun j hj=>by simp [recO,SO.uses] at hj⟩
        · rw [if_neg hk] at hl
          have:=look_nms hl
          exact⟨n2 k this.1,fun j hj=>n2 j (this.2 j (SO.uses_nms.1 hj))⟩
    refine roundIn_of_wpIn trivial ?_
    have hfr:Fence.wide.inRound (ρ 0).blk=fen cx.rd:=by rw [e2]; rfl
    rw [hfr,← e1]
    unfold roundK at hK
    refine (vc_sound hB' asg _ _ hK).h ρ _ w hs _ ?_
    intro ex s1 ρ1 a1 w1 hq hs1
    cases ex with
    | normal =>
      obtain ⟨es,Hs,nxs⟩:=s1
      simp only at hq
      split at hq
      · rename_i e0 H0 nx0 o heq hl
        simp only [St.mk.injEq] at heq
        obtain ⟨rfl,rfl,rfl⟩:=heq
        obtain ⟨rfl,hbody⟩:=hq
        have hb0:ρ1 0=ρ 0:=by have:=hs1.base 0 (by rw [← hcx]; exact n5); rw [this,← hcx]
        obtain ⟨x,hx,hxx⟩:=(hs1.heap.reg 0 true _ hl).keys _ rfl
        have hx:w1.heap[(ρ 0).blk]? = some (.loop { state:=.ready,pending:=none,fn:=fn,tmps:=T0,params:=ps,assign:=asg,body:=body,defers:=d }):=by
          rw [← hb0,hx]; exact congrArg some hxx
        refine⟨_,run_beginRound hx rfl, ?_⟩
        have hs2:=hs1.setObj (Φ':=fun x=>x=.loop { state:=.busy,pending:=none,fn:=fn,tmps:=T0,params:=ps,assign:=asg,body:=body,defers:=d }) hl _ rfl
        rw [hb0] at hs2
        refine (vc_sound hB' body _ _ hbody).h ρ1 _ _ hs2 _ ?_
        intro ex s2 ρ2 a2 w2 hq hs3
        cases ex with
        | normal =>
          obtain ⟨es2,Hs2,nxs2⟩:=s2
          simp only at hq
          split at hq
          · rename_i e0 H0 nx0 o heq hl2
            simp only [St.mk.injEq] at heq
            obtain ⟨rfl,rfl,rfl⟩:=heq
            obtain ⟨rfl,hret⟩:=hq
            have hb2:ρ2 0=ρ 0:=by have:=hs3.base 0 (by rw [← hcx]; exact n5); rw [this,← hcx]
            obtain ⟨y,hy,hyy⟩:=(hs3.heap.reg 0 true _ hl2).keys _ rfl
            have hy:w2.heap[(ρ 0).blk]? = some (.loop { state:=.busy,pending:=none,fn:=fn,tmps:=T0,params:=ps,assign:=asg,body:=body,defers:=d }):=by
              rw [← hb2,hy]; exact congrArg some hyy
            have hs4:=hs3.setObj (Φ':=fun x=>x=.loop { state:=.ready,pending:=none,fn:=fn,tmps:=T0,params:=ps,assign:=asg,body:=body,defers:=d }) hl2 _ rfl
            rw [hb2] at hs4
            obtain ⟨ρ3,h1,h2,h3⟩:=ret_sat (rv:=.c (.b true)) (v:=.bool true) hs4 (by rw [← hcx]) (show SV.rel ρ2 (.c (.b true)) (.bool true) from rfl) (below_b _ _) hret
            refine⟨_,_,run_endRound none hy,ρ3,fun k hk=>by have:=h1 k hk; rw [this,← hcx],rfl, ?_⟩
            rw [← hcx] at h3
            exact h3
          · exact hq.elim
        | _=>exact hq.elim
      · exact hq.elim
    | _=>exact hq.elim

end Sx
end Go

