/-
  A part of the proof that a law answers true: lemmas of a symbolic walk, plain functions, or contracts of the functions walked (Sx17, Sx18). Conditions: none.
-/
import Derived.Test.YtfcdjkeamldkaaaGreatPart06
import Derived.RangeFuncCalls
import Derived.Deep.AppendSrc
set_option maxRecDepth 100000
set_option linter.unusedVariables false
set_option linter.unusedSimpArgs false
namespace Go
namespace Sx

def evs (e:Env):List Operand → List SV
  | []=>[]
  | x :: r=>ev e x :: evs e r

def capPs:List Nat → List SV
  | []=>[]
  | k :: r=>.c (.p k 0 0 0) :: capPs r

def renVs (σ:Nat → Nat):List SV → List SV
  | []=>[]
  | s :: l=>s.ren σ :: renVs σ l

def fshift (np nx:Nat) (τ:List (Nat × Nat)) (k:Nat):Nat:=bif Nat.blt k np then rnf τ k else nx+(k - np)

def maxN:List Nat → Nat → Nat
  | [],m=>m
  | x :: r,m=>maxN r (bif Nat.blt m (x+1) then x+1 else m)

def rangeN (nx:Nat):Nat → List Nat
  | 0=>[]
  | m+1=>nx :: rangeN (nx+1) m

def deadOf (τ:List (Nat × Nat)) (ks:List Nat):Heap → Heap
  | []=>[]
  | (k,true,_) :: r=>bif memN k ks then deadOf τ ks r else (rnf τ k,false, .cells []) :: deadOf τ ks r
  | (_,false,_) :: r=>deadOf τ ks r

def sameRoomB:SO → SO → Bool
  | .cel _ l, .cel _ l'=>Nat.beq l.length l'.length
  | .arr A, .arr A'=>Nat.beq A.sz A'.sz
  | .raw _, .raw _=>true
  | .box _, .box _=>false
  | _,_=>false

def okPost (np:Nat) (pre:Heap):Heap → Bool
  | []=>true
  | (_,true,_) :: r=>okPost np pre r
  | (k,false,o) :: r=>bif Nat.blt k np then (match look pre k with
    | some (_,o')=>bif sameRoomB o' o then okPost np pre r else false
    | none=>false) else false

def allNp (np:Nat) (ks:List Nat):List Nat → Bool
  | []=>true
  | x :: r=>bif Nat.blt x np then (bif memN x ks then allNp np ks r else false) else allNp np ks r

def ownOnly:Heap → Heap
  | []=>[]
  | (k,true,o) :: r=>(k,true,o) :: ownOnly r
  | (_,false,_) :: r=>ownOnly r

def forceVs:List SV → (List SV → Prop) → Prop
  | [],K=>K []
  | s :: l,K=>forceSV s fun s=>forceVs l fun l=>K (s :: l)

theorem forceVs_eq {l:List SV} {K:List SV → Prop}:forceVs l K=K l:=by
  induction l generalizing K with
  | nil=>rfl
  | cons c l ih=>simp [forceVs,ih,forceSV_eq]

def callK (f:FuncId) (args:List SV) (pre:Heap) (np:Nat) (r:SV) (post:Heap) (g:SV) (acts:List SV) (H:Heap) (nx:Nat) (K:Eff → Prop):Prop :=
  match g with
  | .c (.f g caps)=>bif Nat.beq g f then
      forceVs (acts ++ capPs caps) fun avs=>findVsK 0 nx args avs [] fun τ=>findHK 0 nx H pre τ fun τ =>
      bif allIn (keys pre) (nmsV args) && (allIn (keys pre) (nmsH pre) && (nodupB (mapN (rnf τ) (keys pre)) && (allLt nx (mapN (rnf τ) (keys pre)) &&
          (allNp np (keys pre) (r.nms ++ nmsH (ownOnly post)) && (nodupB (keys post) && allLt np (keys pre)))))) then
        entVs [] avs (renVs (rnf τ) args)∧entH [] H (rnf τ) pre ∧
        K ⟨r.ren (fshift np nx τ),mapN (rnf τ) (keys pre),renH (fshift np nx τ) (ownOnly post) ++ deadOf τ (keys (ownOnly post)) pre,rangeN nx (maxN (r.nms ++ nmsH (ownOnly post)) np - np)⟩
      else False
    else False
  | _=>False

theorem mem_rangeN {nx m k:Nat}:k ∈ rangeN nx m ↔ nx≤k∧k < nx+m:=by
  induction m generalizing nx with
  | zero=>simp [rangeN]
  | succ m ih=>simp only [rangeN,List.mem_cons,ih]; omega

theorem length_rangeN {nx m:Nat}:(rangeN nx m).length=m:=by
  induction m generalizing nx with
  | zero=>rfl
  | succ m ih=>simp [rangeN,ih]

theorem le_maxN:∀ (l:List Nat) (m:Nat),m≤maxN l m∧∀ k ∈ l,k < maxN l m
  | [],m=>⟨Nat.le_refl _,by simp⟩
  | x :: r,m=>by
    simp only [maxN]
    cases h:Nat.blt m (x+1) with
    | true =>
      have:=le_maxN r (x+1)
      have h2:m < x+1:=Eq.mp Nat.blt_eq h
      simp only [cond_true]
      exact⟨by omega,fun k hk=>by rcases List.mem_cons.1 hk with rfl | hk; omega; exact this.2 k hk⟩
    | false =>
      have:=le_maxN r m
      have h2:¬ m < x+1:=by rw [← Nat.blt_eq,h]; simp
      simp only [cond_false]
      exact⟨this.1,fun k hk=>by rcases List.mem_cons.1 hk with rfl | hk; omega; exact this.2 k hk⟩

theorem allNp_iff {np:Nat} {ks l:List Nat}:allNp np ks l=true ↔ ∀ k ∈ l,k < np → k ∈ ks:=by
  induction l with
  | nil=>simp [allNp]
  | cons x r ih =>
    simp only [allNp,List.mem_cons,forall_eq_or_imp]
    cases h:Nat.blt x np with
    | true =>
      have h2:x < np:=Eq.mp Nat.blt_eq h
      cases h3:memN x ks with
      | true=>simp [ih,memN_iff.1 h3]
      | false => have : ¬ x ∈ ks := by rw [← memN_iff, h3]; simp
                 simp [this,h2]
    | false =>
      have h2:¬ x < np:=by rw [← Nat.blt_eq,h]; simp
      simp [ih,h2]

theorem okPost_get {np:Nat} {pre:Heap}:∀ {post:Heap} {k:Nat} {o:SO},okPost np pre post=true → look post k=some (false,o) →
    k < np∧∃ own o',look pre k=some (own,o')∧∀ r,o'.room r=o.room r∧o'.fp r=o.fp r
  | [],_,_,_,h=>by simp [look] at h
  | (j,own,o1) :: r,k,o,hp,h=>by
    rw [look_cons] at h
    by_cases hk:k=j
    · rw [if_pos hk] at h; simp at h; obtain ⟨rfl,rfl⟩:=h; subst hk
      simp only [okPost] at hp
      cases hb:Nat.blt k np with
      | false=>simp [hb] at hp
      | true =>
        simp only [hb,cond_true] at hp
        split at hp
        · rename_i own' o' hl
          refine⟨Eq.mp Nat.blt_eq hb,own',o',hl, ?_⟩
          cases hs:sameRoomB o' o1 with
          | false=>simp [hs] at hp
          | true =>
            intro r
            unfold sameRoomB at hs
            split at hs
            · simp [SO.room,SO.fp,Nat.eq_of_beq_eq_true hs]
            · simp [SO.room,SO.fp,Nat.eq_of_beq_eq_true hs]
            · simp [SO.room,SO.fp]
            · cases hs
            · cases hs
        · cases hp
    · rw [if_neg hk] at h
      refine okPost_get (post:=r) ?_ h
      cases own with
      | true=>exact hp
      | false =>
        simp only [okPost] at hp
        cases hb:Nat.blt j np with
        | false=>simp [hb] at hp
        | true =>
          simp only [hb,cond_true] at hp
          split at hp
          · rename_i own' o' hl
            cases hs:sameRoomB o' o1 with
            | false=>simp [hs] at hp
            | true=>simpa [hs] using hp
          · cases hp

theorem look_renH {σ:Nat → Nat}:∀ {post:Heap} {k:Nat} {x:Bool × SO},look (renH σ post) k=some x →
    ∃ j own o,look post j=some (own,o)∧σ j=k∧x=(own,o.ren σ)
  | [],_,_,h=>by simp [renH,look] at h
  | (j,own,o) :: r,k,x,h=>by
    simp only [renH] at h
    rw [look_cons] at h
    by_cases hk:k=σ j
    · rw [if_pos hk] at h
      simp at h
      exact⟨j,own,o,by rw [look_cons,if_pos rfl],hk.symm,h.symm⟩
    · rw [if_neg hk] at h
      obtain ⟨j',own',o',h1,h2,h3⟩:=look_renH h
      refine⟨j',own',o', ?_,h2,h3⟩
      rw [look_cons,if_neg]
      · exact h1
      · rintro rfl; exact hk h2.symm

theorem look_renH_none {σ:Nat → Nat}:∀ {post:Heap} {k:Nat},look (renH σ post) k=none → ∀ j ∈ keys post,σ j ≠ k
  | [],_,_,j,hj=>by cases hj
  | (j0,own,o) :: r,k,h,j,hj=>by
    simp only [renH] at h
    rw [look_cons] at h
    by_cases hk:k=σ j0
    · rw [if_pos hk] at h; cases h
    · rw [if_neg hk] at h
      rcases List.mem_cons.1 hj with rfl | hj
      · exact fun he=>hk he.symm
      · exact look_renH_none h j hj

theorem look_deadOf {τ:List (Nat × Nat)} {ks:List Nat}:∀ {pre:Heap} {k:Nat} {x:Bool × SO},look (deadOf τ ks pre) k=some x → x=(false, .cells [])
  | [],_,_,h=>by simp [deadOf,look] at h
  | (j,true,o) :: r,k,x,h=>by
    simp only [deadOf] at h
    cases hm:memN j ks with
    | true=>simp [hm] at h; exact look_deadOf h
    | false =>
      simp only [hm,cond_false] at h
      rw [look_cons] at h
      by_cases hk:k=rnf τ j
      · rw [if_pos hk] at h; simp at h; exact h.symm
      · rw [if_neg hk] at h; exact look_deadOf h
  | (j,false,o) :: r,k,x,h=>look_deadOf (by simpa [deadOf] using h)

theorem look_deadOf_none {τ:List (Nat × Nat)} {ks:List Nat}:∀ {pre:Heap} {k:Nat},look (deadOf τ ks pre) k=none →
    ∀ j o,(j,true,o) ∈ pre → j ∉ ks → rnf τ j ≠ k
  | [],_,_,_,_,h,_=>by cases h
  | (j0,true,o0) :: r,k,h,j,o,hm,hks=>by
    simp only [deadOf] at h
    cases hmm:memN j0 ks with
    | true =>
      simp [hmm] at h
      rcases List.mem_cons.1 hm with he | hm
      · simp at he; rw [he.1] at hks; exact absurd (memN_iff.1 hmm) hks
      · exact look_deadOf_none h j o hm hks
    | false =>
      simp only [hmm,cond_false] at h
      rw [look_cons] at h
      by_cases hk:k=rnf τ j0
      · rw [if_pos hk] at h; cases h
      · rw [if_neg hk] at h
        rcases List.mem_cons.1 hm with he | hm
        · simp at he; rw [he.1]; exact fun hh=>hk hh.symm
        · exact look_deadOf_none h j o hm hks
  | (j0,false,o0) :: r,k,h,j,o,hm,hks=>by
    rcases List.mem_cons.1 hm with he | hm
    · simp at he
    · exact look_deadOf_none (by simpa [deadOf] using h) j o hm hks

theorem look_mem {H:Heap} {k:Nat} {own:Bool} {o:SO} (h:look H k=some (own,o)):(k,own,o) ∈ H:=by
  induction H with
  | nil=>simp [look] at h
  | cons p r ih =>
    obtain ⟨j,x⟩:=p
    rw [look_cons] at h
    by_cases hk:k=j
    · rw [if_pos hk] at h; simp at h; subst h; subst hk; exact List.mem_cons_self ..
    · rw [if_neg hk] at h; exact List.mem_cons_of_mem _ (ih h)

theorem mem_ownB {ρ:Asg} {b:Nat}:∀ {H:Heap},b ∈ ownB ρ H ↔ ∃ k o,(k,true,o) ∈ H∧0 < o.room (ρ k)∧b ∈ o.fp (ρ k)
  | []=>by simp [ownB]
  | (k,own,o) :: r=>by
    simp only [ownB,List.mem_append,mem_ownB (H:=r),List.mem_cons]
    constructor
    · rintro (h | ⟨k',o',hm,hr,hb⟩)
      · cases hc:own && Nat.blt 0 (o.room (ρ k)) with
        | false=>simp [hc] at h
        | true =>
          simp only [hc,cond_true] at h
          simp only [Bool.and_eq_true] at hc
          exact⟨k,o, .inl (by rw [hc.1]),Eq.mp Nat.blt_eq hc.2,h⟩
      · exact⟨k',o', .inr hm,hr,hb⟩
    · rintro ⟨k',o',hm | hm,hr,hb⟩
      · simp at hm; obtain ⟨rfl,rfl,rfl⟩:=hm
        left
        have:Nat.blt 0 (o'.room (ρ k'))=true:=by rw [Nat.blt_eq]; exact hr
        simp [this,hb]
      · exact .inr ⟨k',o',hm,hr,hb⟩

def uniq (H:Heap):Prop:=∀ k own o,(k,own,o) ∈ H → look H k=some (own,o)

theorem uniq_of_nodup {σ:Nat → Nat}:∀ {H:Heap},nodupB (mapN σ (keys H))=true → uniq H
  | [],_,_,_,_,h=>by cases h
  | (j,x) :: r,hn,k,own,o,hm=>by
    simp only [keys,mapN,nodupB] at hn
    cases hmm:memN (σ j) (mapN σ (keys r)) with
    | true=>simp [hmm] at hn
    | false =>
      simp [hmm] at hn
      rw [look_cons]
      rcases List.mem_cons.1 hm with he | hm
      · simp at he; rw [if_pos he.1,he.2]
      · have hl:=uniq_of_nodup hn k own o hm
        rw [if_neg]
        · exact hl
        · rintro rfl
          have:σ k ∈ mapN σ (keys r):=mem_mapN.2 ⟨k,look_keys hl,rfl⟩
          rw [← memN_iff,hmm] at this; cases this

theorem renVs_rel {ρ:Asg} {σ:Nat → Nat}:∀ {l:List SV} {vs:List Value},relVs ρ (renVs σ l) vs ↔ relVs (fun k=>ρ (σ k)) l vs
  | [],[]=>Iff.rfl
  | [],_ :: _=>Iff.rfl
  | _ :: _,[]=>Iff.rfl
  | _ :: _,_ :: _=>by simp only [renVs,relVs,SV.ren_rel,renVs_rel]

theorem relVs_append {ρ:Asg}:∀ {l l':List SV} {vs vs':List Value},relVs ρ l vs → relVs ρ l' vs' → relVs ρ (l ++ l') (vs ++ vs')
  | [],_,[],_,_,h=>h
  | [],_,_ :: _,_,h,_=>h.elim
  | _ :: _,_,[],_,h,_=>h.elim
  | a :: l,l',v :: vs,vs',h,h'=>⟨h.1,relVs_append h.2 h'⟩

theorem evs_rel {ρ:Asg} {e:Env} {a:Act}:∀ {l:List Operand},(∀ x ∈ l,(ev e x).rel ρ (a.eval x)) → relVs ρ (evs e l) (l.map a.eval)
  | [],_=>trivial
  | x :: l,h=>⟨h x (List.mem_cons_self ..),evs_rel fun y hy=>h y (List.mem_cons_of_mem _ hy)⟩

theorem capPs_rel {ρ:Asg}:∀ {l:List Nat},relVs ρ (capPs l) (l.map fun k=>Value.pointer (some (adr ρ k 0)))
  | []=>trivial
  | k :: l=>⟨by simp [SV.rel,SC.rel],capPs_rel⟩

theorem below_ren {s:SV} {σ:Nat → Nat} {n:Nat} (h:∀ k ∈ s.nms,σ k < n):(s.ren σ).below n:=by
  intro k hk
  rw [SV.uses_nms] at hk
  have:(s.ren σ).nms=s.nms.map σ:=by
    have hL:∀ l:List SC,nmsL (renL σ l)=(nmsL l).map σ:=by
      intro l; induction l with
      | nil=>rfl
      | cons c l ih=>simp [renL,nmsL,ih,SC.ren_nms]
    have hT:∀ l:List (Sum SC (List SC)),nmsT (renT σ l)=(nmsT l).map σ:=by
      intro l; induction l with
      | nil=>rfl
      | cons c l ih=>cases c <;> simp [renT,nmsT,ih,SC.ren_nms,hL]
    cases s with
    | c x=>exact SC.ren_nms σ x
    | agg l=>exact hL l
    | tup l=>exact hT l
    | pk _ l=>exact hL l
  rw [this] at hk
  obtain ⟨j,hj,rfl⟩:=List.mem_map.1 hk
  exact h j hj

theorem belowO_ren {o:SO} {σ:Nat → Nat} {n:Nat} (h:∀ k ∈ o.nms,σ k < n):(o.ren σ).below n:=by
  intro k hk
  rw [SO.uses_nms] at hk
  have:(o.ren σ).nms=o.nms.map σ:=by
    have hL:∀ l:List SC,nmsL (renL σ l)=(nmsL l).map σ:=by
      intro l; induction l with
      | nil=>rfl
      | cons c l ih=>simp [renL,nmsL,ih,SC.ren_nms]
    cases o with
    | cel ty l=>exact hL l
    | arr a =>
      rcases @SO.ren_arr σ a with ⟨h,hn⟩ | h
      · rw [h]; simp [SO.nms,hn]
      · rw [h]; rfl
    | raw l=>rfl
    | box l=>rfl
  rw [this] at hk
  obtain ⟨j,hj,rfl⟩:=List.mem_map.1 hk
  exact h j hj

structure CallC (args:List SV) (pre:Heap) (np:Nat) (r:SV) (post:Heap) (nx:Nat) (τ:List (Nat × Nat)):Prop where
  c1:allIn (keys pre) (nmsV args)=true
  c2:allIn (keys pre) (nmsH pre)=true
  c3:nodupB (mapN (rnf τ) (keys pre))=true
  c4:allLt nx (mapN (rnf τ) (keys pre))=true
  c5:allNp np (keys pre) (r.nms ++ nmsH post)=true
  c6:okPost np pre post=true
  c7:allLt np (keys pre)=true

theorem call_core {cx:Cx} {o:Oper} {e:Env} {H:Heap} {nx:Nat} {K:Eff → Prop} {args:List SV} {pre:Heap} {np:Nat} {r:SV} {post:Heap} {τ:List (Nat × Nat)}
    (hc:CallC args pre np r post nx τ) (hpre:entH [] H (rnf τ) pre)
    (hrun:∀ (ρ:Asg) (a:Act) (w:World),(∀ t,Reads o t → (e.get t).rel ρ (a.tmps.getD t undef)) → (∀ k,k < cx.n0 → ρ k=cx.ρ0 k) → SatH w (ownB (fun k=>ρ (rnf τ k)) pre) (fun k=>ρ (rnf τ k)) pre w →
      ∀ (KK:Act → World → Prop) (Q:Exit → Act → World → Prop),
        (∀ (ρc:Asg) (v:Value) (w':World),(∀ k,k < np → ρc k=ρ (rnf τ k)) → r.rel ρc v → SatH w (ownB (fun k=>ρ (rnf τ k)) pre) ρc post w' → KK (a.put o.dst v) w') → o.wpIn (fen cx.rd) 0 cx.P a w KK Q)
    (hK:K ⟨r.ren (fshift np nx τ),mapN (rnf τ) (keys pre),renH (fshift np nx τ) post ++ deadOf τ (keys post) pre,rangeN nx (maxN (r.nms ++ nmsH post) np - np)⟩) :
    ∃ F,CallOK cx o e H nx F∧K F:=by
  obtain ⟨c1,c2,c3,c4,c5,c6,c7⟩:=hc
  have c1:=allIn_iff.1 c1
  have c2:=allIn_iff.1 c2
  have c4:=allLt_iff.1 c4
  have c5:=allNp_iff.1 c5
  have c7:=allLt_iff.1 c7
  have hinj:=nodupB_inj c3
  have huq:=uniq_of_nodup c3
  refine⟨_,⟨?_, ?_⟩,hK⟩
  rotate_left
  · intro k hk
    simp only [length_rangeN]
    exact mem_rangeN.1 hk
  intro ρ s a w hs hr hk hnew hdst KK Q hKK
  have hpreL:∀ k own q,look pre k=some (own,q) → ∃ own' q',look s.H (rnf τ k)=some (own',q')∧(own=true → own'=true)∧entO [] q' (q.ren (rnf τ)):=by
    intro k own q hl
    rcases entH_get hpre hl with ⟨hm,_⟩ | ⟨_,own',q',h1,h2,h3⟩
    · cases hm
    exact⟨own',q',by rw [hk (rnf τ k) (mem_mapN.2 ⟨k,look_keys hl,rfl⟩)]; exact h1,h2,h3⟩
  have hroomL:∀ {k:Nat} {q q':SO},entO [] q' (q.ren (rnf τ)) → ∀ r,q'.room r=q.room r:=fun h r=>by rw [← entO_room h,SO.ren_room]
  have hH:SatH w (ownB (fun k=>ρ (rnf τ k)) pre) (fun k=>ρ (rnf τ k)) pre w:=by
    refine⟨Frm.refl _ _, ?_, ?_, ?_, ?_⟩
    · intro k own q hl
      obtain ⟨own',q',h1,h2,h3⟩:=hpreL k own q hl
      exact (entO_sat (nl:=[]) (by intro k hk; cases hk) h3 ((hs.heap.reg _ _ _ h1).less' h2)).of_ren
    · intro k k' q own' q' hne hl hl' hr1 hr2
      obtain ⟨o1,q1,h1,h2,h3⟩:=hpreL k true q hl
      obtain ⟨o2,q2,h1',h2',h3'⟩:=hpreL k' own' q' hl'
      have:=h2 rfl; subst this
      rw [ent_fp h3,ent_fp h3']
      exact hs.heap.apart _ _ _ _ _ (fun hh=>hne (hinj k (look_keys hl) k' (look_keys hl') hh)) h1 h1' (by rw [hroomL (k:=k) h3]; exact hr1) (by rw [hroomL (k:=k) h3']; exact hr2)
    · intro k q hl hr1 b hb
      exact .inr (mem_ownB.2 ⟨k,q,look_mem hl,hr1,hb⟩)
    · intro k own q hl hr1
      obtain ⟨o1,q1,h1,h2,h3⟩:=hpreL k own q hl
      rw [ent_fp h3]
      exact hs.heap.valid _ _ _ h1 (by rw [hroomL (k:=k) h3]; exact hr1)
  refine hrun ρ a w (fun t ht=>by rw [← hr t ht]; exact hs.env t) hs.base hH KK Q ?_
  intro ρc v w' hag hrv hpost
  have hm:=le_maxN (r.nms ++ nmsH post) np
  generalize hmd:maxN (r.nms ++ nmsH post) np=mx at hm hKK hnew
  have hσnew:∀ k,np≤k → fshift np nx τ k=nx+(k - np):=fun k hk=>by
    have:Nat.blt k np=false:=by cases h:Nat.blt k np with
      | false=>rfl
      | true=>have:=Eq.mp Nat.blt_eq h; omega
    simp [fshift,this]
  have hσold:∀ k,k < np → fshift np nx τ k=rnf τ k:=fun k hk=>by
    have:Nat.blt k np=true:=by rw [Nat.blt_eq]; exact hk
    simp [fshift,this]
  have hnewin:∀ k,k ∈ rangeN nx (mx - np) → Fresh k s∧k < s.nx∧cx.n0≤k:=hnew
  have hτlt:∀ k ∈ keys pre,rnf τ k < nx:=fun k hk=>c4 _ (mem_mapN.2 ⟨k,hk,rfl⟩)
  obtain ⟨ρ',hρ'⟩:∃ ρ':Asg,ρ'=fun k=>if nx≤k∧k < nx+(mx - np) then ρc (np+(k - nx)) else ρ k:=⟨_,rfl⟩
  have hρold:∀ k,k ∉ rangeN nx (mx - np) → ρ' k=ρ k:=fun k hk=>by rw [hρ']; simp only; rw [if_neg (fun h=>hk (mem_rangeN.2 h))]
  have hρσ:∀ k,(k < np → k ∈ keys pre) → k < mx → ρ' (fshift np nx τ k)=ρc k:=by
    intro k hkp hkm
    by_cases hk:k < np
    · rw [hσold k hk,hρold _ (fun h=>by have:=(mem_rangeN.1 h).1; have:=hτlt k (hkp hk); omega),hag k hk]
    · rw [hσnew k (by omega),hρ']; simp only
      rw [if_pos (by omega),show np+(nx+(k - np) - nx)=k from by omega]
  have hnmR:∀ k ∈ r.nms,(k < np → k ∈ keys pre)∧k < mx:=fun k hk=>⟨c5 k (List.mem_append_left _ hk),hm.2 k (List.mem_append_left _ hk)⟩
  have hnmP:∀ k ∈ nmsH post,(k < np → k ∈ keys pre)∧k < mx:=fun k hk=>⟨c5 k (List.mem_append_right _ hk),hm.2 k (List.mem_append_right _ hk)⟩
  have hσlt:∀ k,(k < np → k ∈ keys pre)∧k < mx → fshift np nx τ k < s.nx:=by
    rintro k ⟨h1,h2⟩
    by_cases hk:k < np
    · rw [hσold k hk]
      obtain ⟨x0,hx0⟩:=look_of_keys (h1 hk)
      obtain ⟨o1,q1,h3,_,_⟩:=hpreL k x0.1 x0.2 (by simpa using hx0)
      exact (hs.bnd.heap _ _ _ h3).1
    · rw [hσnew k (by omega)]
      exact (hnewin _ (mem_rangeN.2 ⟨by omega,by omega⟩)).2.1
  have hcase:∀ k own q,look (renH (fshift np nx τ) post ++ deadOf τ (keys post) pre ++ s.H) k=some (own,q) →
      (∃ j q0,look post j=some (own,q0)∧fshift np nx τ j=k∧q=q0.ren (fshift np nx τ)) ∨ (own=false∧q=.cells []) ∨
      (look s.H k=some (own,q)∧(∀ j ∈ keys post,fshift np nx τ j ≠ k)∧∀ j q0,look pre j=some (true,q0) → rnf τ j ≠ k):=by
    intro k own q hl
    rw [look_append,look_append] at hl
    cases h1:look (renH (fshift np nx τ) post) k with
    | some y =>
      obtain ⟨j,own',o',h2,h3,h4⟩:=look_renH h1
      rw [h1] at hl; simp at hl; subst hl
      simp at h4
      exact .inl ⟨j,o',by rw [h4.1]; exact h2,h3,h4.2⟩
    | none =>
      cases h2:look (deadOf τ (keys post) pre) k with
      | some y =>
        have:=look_deadOf h2
        rw [h1,h2] at hl; simp at hl; subst hl
        simp at this
        exact .inr (.inl this)
      | none =>
        rw [h1,h2] at hl; simp at hl
        refine .inr (.inr ⟨hl,look_renH_none h1,fun j q0 hj=>?_⟩)
        by_cases hjk:j ∈ keys post
        · have:=look_renH_none h1 j hjk
          rwa [hσold j (c7 j (look_keys hj))] at this
        · exact look_deadOf_none h2 j q0 (look_mem hj) hjk
  have hout:∀ k own q,look s.H k=some (own,q) → (∀ j q0,look pre j=some (true,q0) → rnf τ j ≠ k) → 0 < q.room (ρ k) →
      ∀ b ∈ q.fp (ρ k),b < w.heap.size∧b ∉ ownB (fun k=>ρ (rnf τ k)) pre:=by
    intro k own q hl hne hrm b hbq
    refine⟨hs.heap.valid _ _ _ hl hrm b hbq,fun hm=>?_⟩
    obtain ⟨j,q0,hj,hrj,hb⟩:=mem_ownB.1 hm
    have hlj:=huq j true q0 hj
    obtain ⟨o1,q1,h1,h2,h3⟩:=hpreL j true q0 hlj
    have:=h2 rfl; subst this
    rw [ent_fp h3] at hb
    exact hs.heap.apart _ _ _ _ _ (hne j q0 hlj) h1 hl (by rw [hroomL (k:=j) h3]; exact hrj) hrm b hb hbq
  have hsame:∀ k own q,look s.H k=some (own,q) → (∀ j q0,look pre j=some (true,q0) → rnf τ j ≠ k) → 0 < q.room (ρ k) → ∀ b ∈ q.fp (ρ k),w'.heap[b]? = w.heap[b]? :=
    fun k own q hl hne hrm b hb=>hpost.frm.same _ (hout k own q hl hne hrm b hb).1 (hout k own q hl hne hrm b hb).2
  have hρkeep:∀ k own q,look s.H k=some (own,q) → ρ' k=ρ k∧∀ n,q.uses [n]=true → ρ' n=ρ n:=by
    intro k own q hl
    refine⟨hρold k (fun hm=>((hnewin k hm).1.heap k own q hl).1 rfl),fun n hn=>hρold n (fun hm=>?_)⟩
    have:=((hnewin n hm).1.heap k own q hl).2
    rw [hn] at this; cases this
  have hfreshB:∀ j q0,look post j=some (true,q0) → 0 < q0.room (ρc j) → ∀ b ∈ q0.fp (ρc j),w.heap.size≤b ∨
      ∃ i q1,look pre i=some (true,q1)∧0 < q1.room (ρ (rnf τ i))∧b ∈ q1.fp (ρ (rnf τ i)):=by
    intro j q0 hj hrj b hbj
    rcases hpost.fresh j q0 hj hrj b hbj with h1 | h1
    · exact .inl h1
    · obtain ⟨i,q1,hi,hri,hb⟩:=mem_ownB.1 h1
      exact .inr ⟨i,q1,huq i true q1 hi,hri,hb⟩
  have hpk:∀ {j:Nat} {own:Bool} {q0:SO},look post j=some (own,q0) → ρ' (fshift np nx τ j)=ρc j:=fun hj =>
    hρσ _ (hnmP _ (look_nms hj).1).1 (hnmP _ (look_nms hj).1).2
  have hsatH:SatH cx.w0 cx.M ρ' (renH (fshift np nx τ) post ++ deadOf τ (keys post) pre ++ s.H) w':=by
    refine⟨⟨Nat.le_trans hs.heap.frm.size hpost.frm.size, ?_,⟨hpost.frm.io.1.trans hs.heap.frm.io.1,hpost.frm.io.2.trans hs.heap.frm.io.2⟩,hpost.frm.quiet.1.trans hs.heap.frm.quiet.1,Nat.le_trans hs.heap.frm.quiet.2 hpost.frm.quiet.2⟩, ?_, ?_, ?_, ?_⟩
    · intro b hb hM
      rw [hpost.frm.same b (Nat.lt_of_lt_of_le hb hs.heap.frm.size) ?_]
      · exact hs.heap.frm.same b hb hM
      · intro hm
        obtain ⟨j,q0,hj,hrj,hbj⟩:=mem_ownB.1 hm
        obtain ⟨o1,q1,h1,h2,h3⟩:=hpreL j true q0 (huq j true q0 hj)
        have:=h2 rfl; subst this
        rw [ent_fp h3] at hbj
        rcases hs.heap.fresh _ _ h1 (by rw [hroomL (k:=j) h3]; exact hrj) b hbj with h4 | h4
        · omega
        · exact hM h4
    · intro k own q hl
      rcases hcase k own q hl with ⟨j,q0,hj,rfl,rfl⟩ | ⟨rfl,rfl⟩ | ⟨hl,hne,hne'⟩
      · refine SatO.to_ren ((hpost.reg j own q0 hj).asg (hpk hj) fun n hn=>?_)
        exact hρσ n (hnmP n ((look_nms hj).2 n (SO.uses_nms.1 hn))).1 (hnmP n ((look_nms hj).2 n (SO.uses_nms.1 hn))).2
      · exact satO_dead _ _ _
      · exact ((hs.heap.reg k own q hl).world (hsame k own q hl hne')).asg (hρkeep k own q hl).1 (hρkeep k own q hl).2
    · intro k k' q own' q' hne hl hl' hr1 hr2
      rcases hcase k true q hl with ⟨j,q0,hj,rfl,rfl⟩ | ⟨h0,_⟩ | ⟨hl,hn1,hn2⟩
      · rw [SO.ren_room] at hr1
        rw [hpk hj] at hr1 ⊢
        rcases hcase k' own' q' hl' with ⟨j',q0',hj',rfl,rfl⟩ | ⟨rfl,rfl⟩ | ⟨hl',hn1',hn2'⟩
        · rw [SO.ren_room] at hr2
          rw [hpk hj'] at hr2 ⊢
          rw [SO.ren_fp,SO.ren_fp]
          exact hpost.apart j j' q0 own' q0' (fun hh=>hne (by rw [hh])) hj hj' hr1 hr2
        · simp [SO.room] at hr2
        · rw [(hρkeep k' own' q' hl').1] at hr2 ⊢
          intro b hb1 hb2
          rw [SO.ren_fp] at hb1
          rcases hfreshB j q0 hj hr1 b hb1 with h1 | ⟨i,q1,hi,hri,hb⟩
          · have:=(hout k' own' q' hl' hn2' hr2 b hb2).1
            omega
          · obtain ⟨o1,q2,h1,h2,h3⟩:=hpreL i true q1 hi
            have:=h2 rfl; subst this
            rw [ent_fp h3] at hb
            exact hs.heap.apart _ _ _ _ _ (hn2' i q1 hi) h1 hl' (by rw [hroomL (k:=i) h3]; exact hri) hr2 b hb hb2
      · cases h0
      · rw [(hρkeep k true q hl).1] at hr1 ⊢
        rcases hcase k' own' q' hl' with ⟨j',q0',hj',rfl,rfl⟩ | ⟨rfl,rfl⟩ | ⟨hl',hn1',hn2'⟩
        · rw [SO.ren_room] at hr2
          rw [hpk hj'] at hr2 ⊢
          cases own' with
          | true =>
            intro b hb1 hb2
            rw [SO.ren_fp] at hb2
            rcases hfreshB j' q0' hj' hr2 b hb2 with h1 | ⟨i,q1,hi,hri,hb⟩
            · have:=(hout k true q hl hn2 hr1 b hb1).1
              omega
            · obtain ⟨o1,q2,h1,h2,h3⟩:=hpreL i true q1 hi
              have:=h2 rfl; subst this
              rw [ent_fp h3] at hb
              exact hs.heap.apart _ _ _ _ _ (hn2 i q1 hi) h1 hl (by rw [hroomL (k:=i) h3]; exact hri) hr1 b hb hb1
          | false =>
            obtain ⟨hjn,own1,q1,hl1,hrm⟩:=okPost_get c6 hj'
            obtain ⟨o1,q2,h1,h2,h3⟩:=hpreL j' own1 q1 hl1
            have hne2:k ≠ rnf τ j':=by
              rintro rfl
              exact hn1 j' (look_keys hj') (hσold j' hjn)
            have e1:ρc j'=ρ (rnf τ j'):=hag j' hjn
            rw [e1] at hr2 ⊢
            rw [SO.ren_fp,← (hrm _).2,ent_fp h3]
            exact hs.heap.apart _ _ _ _ _ hne2 hl h1 hr1 (by rw [hroomL (k:=j') h3,(hrm _).1]; exact hr2)
        · simp [SO.room] at hr2
        · rw [(hρkeep k' own' q' hl').1] at hr2 ⊢
          exact hs.heap.apart k k' q own' q' hne hl hl' hr1 hr2
    · intro k q hl hr1
      rcases hcase k true q hl with ⟨j,q0,hj,rfl,rfl⟩ | ⟨h0,_⟩ | ⟨hl,hn1,hn2⟩
      · rw [SO.ren_room] at hr1
        rw [hpk hj] at hr1 ⊢
        intro b hb1
        rw [SO.ren_fp] at hb1
        rcases hfreshB j q0 hj hr1 b hb1 with h1 | ⟨i,q1,hi,hri,hb⟩
        · exact .inl (Nat.le_trans hs.heap.frm.size h1)
        · obtain ⟨o1,q2,h1,h2,h3⟩:=hpreL i true q1 hi
          have:=h2 rfl; subst this
          rw [ent_fp h3] at hb
          exact hs.heap.fresh _ _ h1 (by rw [hroomL (k:=i) h3]; exact hri) b hb
      · cases h0
      · rw [(hρkeep k true q hl).1] at hr1 ⊢
        exact hs.heap.fresh k q hl hr1
    · intro k own q hl hr1
      rcases hcase k own q hl with ⟨j,q0,hj,rfl,rfl⟩ | ⟨rfl,rfl⟩ | ⟨hl,hn1,hn2⟩
      · rw [SO.ren_room] at hr1
        rw [hpk hj] at hr1 ⊢
        rw [SO.ren_fp]
        exact hpost.valid j own q0 hj hr1
      · simp [SO.room] at hr1
      · rw [(hρkeep k own q hl).1] at hr1 ⊢
        exact fun b hb=>Nat.lt_of_lt_of_le (hs.heap.valid k own q hl hr1 b hb) hpost.frm.size
  have hsat:Sat cx ρ' { s with H:=renH (fshift np nx τ) post ++ deadOf τ (keys post) pre ++ s.H } a w' :=
    { size:=hs.size,defers:=by rw [hs.defers]; exact (marks_agree' fun k hk=>hρold k (fun hm=>(hnewin k hm).1.mks hk)).symm
      env:=fun i=>SV.rel_agree (fun j hj=>hρold j (fun hm=>by have:=(hnewin j hm).1.env i; rw [hj] at this; cases this)) (hs.env i)
      heap:=hsatH
      bnd:=⟨hs.bnd.env,hs.bnd.mks,fun k own q hl=>by
        rcases hcase k own q hl with ⟨j,q0,hj,rfl,rfl⟩ | ⟨rfl,rfl⟩ | ⟨hl,hn1,hn2⟩
        · exact⟨hσlt j (hnmP j (look_nms hj).1),belowO_ren fun n hn=>hσlt n (hnmP n ((look_nms hj).2 n hn))⟩
        · refine⟨?_,fun k' hk'=>by simp [SO.uses,usesL] at hk'⟩
          rw [look_append] at hl
          cases hz:look (renH (fshift np nx τ) post ++ deadOf τ (keys post) pre) k with
          | none=>rw [hz] at hl; simp at hl; exact (hs.bnd.heap _ _ _ hl).1
          | some y =>
            rw [look_append] at hz
            cases hz1:look (renH (fshift np nx τ) post) k with
            | some y1 =>
              obtain ⟨j,own',o',h2,h3,h4⟩:=look_renH hz1
              rw [← h3]; exact hσlt j (hnmP j (look_nms h2).1)
            | none =>
              rw [hz1] at hz; simp at hz
              have hkk:=look_keys hz
              have:∀ (p:Heap),(∀ j ∈ keys p,j ∈ keys pre) → k ∈ keys (deadOf τ (keys post) p) → ∃ j ∈ keys pre,rnf τ j=k:=by
                intro p
                induction p with
                | nil=>intro _ h; simp [deadOf,keys] at h
                | cons x p ih =>
                  obtain ⟨j,ow,q⟩:=x
                  intro hsub h
                  have hsub':∀ i ∈ keys p,i ∈ keys pre:=fun i hi=>hsub i (by simp [keys,hi])
                  cases ow with
                  | false=>exact ih hsub' (by simpa [deadOf] using h)
                  | true =>
                    simp only [deadOf] at h
                    cases hm:memN j (keys post) with
                    | true=>simp [hm] at h; exact ih hsub' h
                    | false =>
                      simp only [hm,cond_false,keys,List.mem_cons] at h
                      rcases h with h | h
                      · exact⟨j,hsub j (by simp [keys]),h.symm⟩
                      · exact ih hsub' h
              obtain ⟨j,hj,hjk⟩:=this pre (fun _ h=>h) hkk
              rw [← hjk,← hσold j (c7 j hj)]
              obtain ⟨x0,hx0⟩:=look_of_keys hj
              exact hσlt j ⟨fun _=>hj,by have:=c7 j hj; omega⟩
        · exact hs.bnd.heap k own q hl⟩
      base:=fun k hk=>by rw [hρold k (fun hm=>by have:=(hnewin k hm).2.2; omega)]; exact hs.base k hk
      keep:=hs.keep
      n0:=hs.n0 }
  refine hKK ρ' _ w' (hsat.putO hdst ?_ (below_ren fun k hk=>hσlt k (hnmR k hk))) (fun k hk=>hρold k hk)
  refine SV.ren_rel.2 (SV.rel_agree (fun k hk=>?_) hrv)
  exact hρσ k (hnmR k (SV.uses_nms.1 hk)).1 (hnmR k (SV.uses_nms.1 hk)).2

theorem calls_fen {rd:Option Nat} {P:Program} {f:FuncId} {args:Array Value} {w:World} {R:Ending → World → Prop} (h:Calls P f args w R):CallsIn (fen rd) 0 P f args w R:=by
  have h0:CallsIn Fence.wide 0 P f args w R:=by rw [callsIn_wide]; exact h
  cases rd with
  | none=>exact h0
  | some l=>exact h0.inRound l

theorem ownOnly_look {k:Nat} {x:Bool × SO}:∀ {H:Heap},nodupB (keys H)=true → look (ownOnly H) k=some x → look H k=some x
  | [],_,h=>by simp [ownOnly,look] at h
  | (j,own,o) :: r,hn,h=>by
    simp only [keys,nodupB] at hn
    obtain ⟨hm,hn⟩:memN j (keys r)=false∧nodupB (keys r)=true:=by cases hm:memN j (keys r) <;> simp_all
    rw [look_cons]
    cases own with
    | true =>
      simp only [ownOnly] at h
      rw [look_cons] at h
      by_cases hk:k=j
      · rw [if_pos hk] at h ⊢; exact h
      · rw [if_neg hk] at h ⊢; exact ownOnly_look hn h
    | false =>
      simp only [ownOnly] at h
      have h2:=ownOnly_look hn h
      rw [if_neg]
      · exact h2
      · rintro rfl
        rw [memN_iff.2 (look_keys h2)] at hm; cases hm

theorem okPost_own {np:Nat} {pre:Heap}:∀ {H:Heap},okPost np pre (ownOnly H)=true
  | []=>rfl
  | (_,true,_) :: r=>by simp only [ownOnly,okPost]; exact okPost_own
  | (_,false,_) :: r=>by simp only [ownOnly]; exact okPost_own

theorem SatH.own {w0:World} {M:List Nat} {ρ:Asg} {H:Heap} {w:World} (h:SatH w0 M ρ H w) (hn:nodupB (keys H)=true):SatH w0 M ρ (ownOnly H) w where
  frm:=h.frm
  reg k own o hl:=h.reg k own o (ownOnly_look hn hl)
  apart k k' o own' o' hne hl hl':=h.apart k k' o own' o' hne (ownOnly_look hn hl) (ownOnly_look hn hl')
  fresh k o hl:=h.fresh k o (ownOnly_look hn hl)
  valid k own o hl:=h.valid k own o (ownOnly_look hn hl)

theorem call_step {cx:Cx} {o:Oper} {e:Env} {H:Heap} {nx:Nat} {K:Eff → Prop} {c:Call} {x:Operand} {f:FuncId} {args:List SV} {pre:Heap} {np:Nat} {r:SV} {post:Heap}
    (T:Triple cx.P f args pre np r post) (ho:o.op=.call c) (hc:c.callee=.value x) (h:callK f args pre np r post (ev e x) (evs e c.args.toList) H nx K) :
    ∃ F,CallOK cx o e H nx F∧K F:=by
  unfold callK at h
  split at h
  · rename_i g caps he
    cases hg:Nat.beq g f with
    | false=>simp [hg] at h
    | true =>
    simp only [hg,cond_true,forceVs_eq,findVsK_eq,findHK_eq] at h
    have hgf:=Nat.eq_of_beq_eq_true hg
    generalize hτ:findH 0 nx H pre (findVs 0 nx args (evs e c.args.toList ++ capPs caps) [])=τ at h
    obtain ⟨hall,h⟩:=bif_and h
    simp only [Bool.and_eq_true] at hall
    obtain ⟨c1,c2,c3,c4,c5,c6,c7⟩:=hall
    obtain ⟨hargs,hpre,hK⟩:=h
    refine call_core (post:=ownOnly post) ⟨c1,c2,c3,c4,c5,okPost_own,c7⟩ hpre ?_ hK
    intro ρ a w hr _ hH KK Q hKK
    have hops:∀ y ∈ c.args.toList,y ∈ o.op.operands.toList:=fun y hy=>by simp [ho,Op.operands,Call.operands,hc]; exact .inr (by simpa using hy)
    have hopx:x ∈ o.op.operands.toList:=by simp [ho,Op.operands,Call.operands,hc]
    have hfit:∀ y,y ∈ o.op.operands.toList → (ev e y).rel ρ (a.eval y):=fun y hy=>reads_fit hy hr
    have hx:=hfit x hopx
    rw [he] at hx; simp only [SV.rel,SC.rel] at hx
    have hvals:relVs (fun k=>ρ (rnf τ k)) args (c.args.toList.map a.eval ++ caps.map fun k=>Value.pointer (some (adr ρ k 0))) :=
      renVs_rel.1 (entVs_rel (nl:=[]) (by intro k hk; cases hk) hargs (relVs_append (evs_rel fun y hy=>hfit y (hops y hy)) capPs_rel))
    have hcall:=T.h (fun k=>ρ (rnf τ k)) w (c.args.map a.eval ++ (caps.map fun k=>Value.pointer (some (adr ρ k 0))).toArray) (by simpa using hvals) hH
    have hrun:(execOp a.eval o).run cx.P w=.ok (.enter f (c.args.map a.eval ++ (caps.map fun k=>Value.pointer (some (adr ρ k 0))).toArray)) w:=by
      simp only [execOp,ho,resolve,hc,hx,Deferred.ofValue,Sem.run_bind,Sem.run_pure,Result.andThen_ok,invoke,hgf]
      rw [T.enter]; simp
    refine⟨fun _ _=>trivial, ?_⟩
    rw [Oper.semAt_eq _ _ _ (by simp [ho]),hrun,Oper.uponIn_enter]
    refine⟨fun h=>by simp [fen,Fence.wide] at h, ?_⟩
    refine CallsIn.mono (calls_fen hcall) ?_
    rintro en w' ⟨ρc,v,hag,rfl,hrv,hpost⟩
    exact hKK ρc v w' hag hrv (hpost.own c6)
  · exact h.elim

end Sx
end Go

namespace Go
namespace Sx

theorem Sat.drop {cx:Cx} {ρ:Asg} {s:St} {a:Act} {w:World} (h:Sat cx ρ s a w) {k:Nat} (hk:k < s.nx):Sat cx ρ { s with H:=(k,false, .cells []) :: s.H } a w :=
  { size:=h.size,defers:=h.defers,env:=h.env,heap:=h.heap.drop k,bnd:=h.bnd.cons hk (by intro j hj; simp [SO.uses,usesL] at hj),base:=h.base,keep:=h.keep,n0:=h.n0 }

theorem Sat.retake {cx:Cx} {ρ:Asg} {s:St} {a:Act} {w:World} (h:Sat cx ρ s a w) {k nx n cap:Nat} {o o':SO} {vs:List Value} (hl:look s.H k=some (true,o))
    (hf:Fresh nx s) (hlt:nx < s.nx) (hn:cx.n0≤nx) (hroom:o'.room ⟨(ρ k).blk,(ρ k).off,cap,[]⟩≤o.room (ρ k)) (hvs:o.room (ρ k)=0 → vs=[]) (hb:o'.below s.nx)
    (hnew:SatO (upd ρ nx ⟨(ρ k).blk,(ρ k).off,cap,[]⟩) (setCells w (ρ k).blk n vs) nx true o') (hnb:o'.nb=true:=by rfl) :
    Sat cx (upd ρ nx ⟨(ρ k).blk,(ρ k).off,cap,[]⟩) { s with H:=(nx,true,o') :: (k,false, .cells []) :: s.H } a (setCells w (ρ k).blk n vs):=by
  have hk:k ≠ nx:=(hf.heap k true o hl).1
  have hd:∀ j own' p,look ((k,false,SO.cells []) :: s.H) j=some (own',p) → 0 < p.room (ρ j) → 0 < o.room (ρ k) → ∀ b ∈ p.fp (ρ j),b ≠ (ρ k).blk:=by
    intro j own' p hj hpr hr
    rw [look_cons] at hj
    by_cases hjk:j=k
    · rw [if_pos hjk] at hj; simp at hj; obtain ⟨_,rfl⟩:=hj; simp [SO.room] at hpr
    · rw [if_neg hjk] at hj
      exact fun b hb he=>h.heap.apart k j o own' p (Ne.symm hjk) hl hj hr hpr (ρ k).blk blk_fp (he ▸ hb)
  have hdr:=h.drop (h.bnd.heap k true o hl).1
  have hs':SatH cx.w0 cx.M (upd ρ nx ⟨(ρ k).blk,(ρ k).off,cap,[]⟩) ((nx,true,o') :: (k,false, .cells []) :: s.H) (setCells w (ρ k).blk n vs):=by
    refine hdr.heap.cons (fun j own q hj hjn=>?_) (by rw [setCells_size]; exact Nat.le_refl _) ?_ ?_ hnb ?_ ?_ hnew ?_ ?_
    · rw [look_cons] at hj
      by_cases hjk:j=k
      · rw [if_pos hjk] at hj; simp at hj; obtain ⟨_,rfl⟩:=hj
        exact⟨upd_ne hjn,fun m hm=>by simp [SO.uses,usesL] at hm⟩
      · rw [if_neg hjk] at hj
        exact⟨upd_ne hjn,fun m hm=>upd_ne (by rintro rfl; have:=(hf.heap j own q hj).2; rw [hm] at this; cases this)⟩
    · by_cases hr:0 < o.room (ρ k)
      · exact h.heap.frmSet hl hr n vs
      · rw [hvs (by omega)]; exact h.heap.frm
    · intro b _ hb
      rw [upd_eq] at hb
      exact setCells_other _ _ _ _ hb
    · intro j own' q hj _ hq hr
      rw [upd_eq] at hr ⊢
      exact hd j own' q hj hq (by omega)
    · intro j own' q hj _ hq b hb
      by_cases hr:0 < o.room (ρ k)
      · exact setCells_other _ _ _ _ (hd j own' q hj hq hr b hb)
      · rw [hvs (by omega)]; rfl
    · intro _ hr
      rw [upd_eq] at hr ⊢
      exact h.heap.fresh k o hl (by omega) _ blk_fp
    · intro hr
      rw [upd_eq] at hr ⊢
      rw [setCells_size]
      exact h.heap.valid k true o hl (by omega) _ blk_fp
  exact { size:=h.size,defers:=by rw [h.defers]; exact (marks_agree' fun j hj=>upd_ne (by rintro rfl; exact hf.mks hj)).symm,env:=fun i=>SV.rel_upd' (h.env i) (hf.env i),heap:=hs',bnd:=hdr.bnd.cons hlt hb,base:=fun j hj=>by rw [upd_ne (by omega)]; exact h.base j hj,keep:=h.keep,n0:=h.n0 }


theorem setXs_cell {A:Arr} {xs:List A.α} {i j:Nat}:(SO.arr (A.setXs xs)).cell? i j=(xs[i]?).bind fun x=>(A.enc x)[j]?:=arr_cell? _ i j

theorem arr_cell {ρ:Asg} {w:World} {k:Nat} {own:Bool} {A:Arr} (h:SatO ρ w k own (.arr A)) {n:Nat} (hn:n < A.xs.length * A.sz) :
    ∃ v x c,A.xs[n / A.sz]? = some x∧(A.enc x)[n % A.sz]? = some c∧w.cell? (adr ρ k n)=some v∧c.rel ρ v:=by
  have hsz:0 < A.sz:=by rcases Nat.eq_zero_or_pos A.sz with h | h; simp [h] at hn; exact h
  have hi:n / A.sz < A.xs.length:=(Nat.div_lt_iff_lt_mul hsz).2 hn
  have hj:n % A.sz < (A.enc A.xs[n / A.sz]).length:=by rw [A.hl]; exact Nat.mod_lt _ hsz
  obtain ⟨v,hv,hr⟩:=h.at_ (n / A.sz) (n % A.sz) ((A.enc A.xs[n / A.sz])[n % A.sz]) (by simp only [SO.cell?,List.getElem?_eq_getElem hi]; simp [hj])
  refine⟨v,A.xs[n / A.sz],_,by simp [hi],by simp [hj], ?_,hr⟩
  have:n / A.sz * A.sz+n % A.sz=n:=by rw [Nat.mul_comm]; exact Nat.div_add_mod n A.sz
  simpa [SO.sz,this] using hv

def flat (w:World) (ρ:Asg) (k n:Nat):Nat → List Value
  | 0=>[]
  | m+1=>(w.cell? (adr ρ k n)).getD undef :: flat w ρ k (n+1) m

theorem flat_length {w:World} {ρ:Asg} {k n m:Nat}:(flat w ρ k n m).length=m:=by
  induction m generalizing n with
  | zero=>rfl
  | succ m ih=>simp [flat,ih]

theorem flat_get {w:World} {ρ:Asg} {k n m j:Nat} (h:j < m):(flat w ρ k n m)[j]? = some ((w.cell? (adr ρ k (n+j))).getD undef):=by
  induction m generalizing n j with
  | zero=>omega
  | succ m ih =>
    cases j with
    | zero=>simp [flat]
    | succ j =>
      simp only [flat,List.getElem?_cons_succ]
      rw [ih (by omega),show n+1+j=n+(j+1) from by omega]

theorem setCells_kit (w:World) (b o:Nat) (vs:List Value):w.setCells b o vs=setCells w b o vs:=by
  induction vs generalizing w o with
  | nil=>rfl
  | cons v vs ih=>simp only [World.setCells,setCells,ih]

theorem ti_parts {P:Program} {B:Tabs} (hB:TabsOK P B) {t:Nat} {ti:TI} (h:lookT B.T t=some ti) :
    ∃ i z,P.info? t=some i∧i.zero=some z∧i.size=ti.size∧i.bytes=ti.bytes∧z.cells.toList=ti.zero:=by
  obtain ⟨i,d,z,hi,hd,hz,hk,hs,hb,hzz⟩:=tiOf_parts (hB.T.get h)
  exact⟨i,z,hi,hz,hs,hb,hzz⟩

theorem und_slice {P:Program} {B:Tabs} (hB:TabsOK P B) {t el s0 b0:Nat} {z0:List Value} (h:lookT B.T t=some ⟨.slice el,s0,b0,z0⟩):P.underlying t=some (.slice el):=by
  obtain ⟨i,d,z,hi,hd,hz,hk,hs,hb,hzz⟩:=tiOf_parts (hB.T.get h)
  cases d <;> simp [kdOf] at hk
  rw [hd,hk]

theorem allOne_mem:∀ {l:List SC} {c:SC},allOne l=true → c ∈ l → c.one=true
  | [],_,_,h=>by cases h
  | y :: l,c,h,hm=>by
    simp only [allOne] at h
    cases hy:y.one with
    | false=>simp [hy] at h
    | true =>
      simp [hy] at h
      rcases List.mem_cons.1 hm with rfl | hm
      · exact hy
      · exact allOne_mem h hm

theorem src_of {P:Program} {B:Tabs} (hB:TabsOK P B) {ρ:Asg} {w:World} {t el s0 b0:Nat} {z0:List Value} (ht:lookT B.T t=some ⟨.slice el,s0,b0,z0⟩) {k st m c:Nat} {own:Bool} {A:Arr}
    (h:SatO ρ w k own (.arr A)) (hm:st+m≤A.xs.length) (hone:∀ x,allOne (A.enc x)=true) {a:Option Addr} (ha:0 < m → a=some (adr ρ k (st * A.sz))) :
    Src P A.sz t (.slice a m c) m (flat w ρ k (st * A.sz) (m * A.sz)) w:=by
  rcases Nat.eq_zero_or_pos m with rfl | hpos
  · simp only [Nat.zero_mul,flat]
    cases a with
    | none=>exact Src.ofNil w (und_slice hB ht) c
    | some a=>exact Src.ofSlice w (und_slice hB ht) a 0 c [] (by simp) (by simp) (by simp)
  · rw [ha hpos]
    have hle:st * A.sz+m * A.sz≤A.xs.length * A.sz:=by rw [← Nat.add_mul]; exact Nat.mul_le_mul_right _ hm
    refine Src.ofSlice w (und_slice hB ht) _ m c _ (by rw [flat_length]) ?_ ?_
    · intro j u hj
      have hlt:j < m * A.sz:=by have:=(List.getElem?_eq_some_iff.1 hj).1; rwa [flat_length] at this
      rw [flat_get hlt] at hj
      obtain ⟨v,x,cc,h1,h2,h3,h4⟩:=arr_cell h (n:=st * A.sz+j) (by omega)
      rw [h3] at hj; simp at hj; subst hj
      have:(adr ρ k (st * A.sz)).add j=adr ρ k (st * A.sz+j):=by simp only [adr,Addr.add]; by_cases hj0:j=0 <;> simp [hj0,Nat.add_assoc]
      rw [this]; exact h3
    · intro u hu
      obtain ⟨j,hj⟩:=List.mem_iff_getElem?.1 hu
      have hlt:j < m * A.sz:=by have:=(List.getElem?_eq_some_iff.1 hj).1; rwa [flat_length] at this
      rw [flat_get hlt] at hj
      obtain ⟨v,x,cc,h1,h2,h3,h4⟩:=arr_cell h (n:=st * A.sz+j) (by omega)
      rw [h3] at hj; simp at hj; subst hj
      have hc1:cc.one=true:=by
        exact allOne_mem (hone x) (List.mem_of_getElem? h2)
      have:=one_cells hc1 h4
      cases v <;> simp_all [Value.oneCell']

def appK (B:Tabs) (A:Arr) (zs:List A.α) (t t':TypeId) (x y:SV) (H:Heap) (nx:Nat) (K:Eff → Prop):Prop :=
  match lookT B.T t,lookT B.T t',x,y with
  | some ⟨.slice el,_,_,_⟩,some ⟨.slice _,_,_,_⟩, .c (.s k 0 len sz), .c (.s k' st m sz')=>(match lookT B.T el with
    | some ti=>bif (Nat.beq ti.size sz && Nat.beq sz sz') && (Nat.ble 1 sz && (Nat.beq sz A.sz && !Nat.beq k k')) then (match look H k,look H k' with
      | some (true, .arr A0),some (_, .arr X)=>(A0=A∧X=A.setXs zs∧len≤A.xs.length∧st+m≤zs.length∧(len+m) * (ti.bytes+1)≤140737488355328) ∧
          K ⟨.c (.s nx 0 (len+m) sz),[k,k'],[(nx,true, .arr (A.setXs (A.xs.take len ++ (zs.drop st).take m))),(k,false, .cells [])],[nx]⟩
      | _,_=>False) else False
    | none=>False)
  | _,_,_,_=>False

theorem app_get {α:Type} {xs zs:List α} {len st m i:Nat} (h1:len≤xs.length) (h2:st+m≤zs.length) (hi:i < len+m) :
    (xs.take len ++ (zs.drop st).take m)[i]? = if i < len then xs[i]? else zs[st+(i - len)]?:=by
  have hl:(xs.take len).length=len:=by rw [List.length_take]; omega
  by_cases h:i < len
  · rw [if_pos h,List.getElem?_append_left (by omega),List.getElem?_take,if_pos h]
  · rw [if_neg h,List.getElem?_append_right (by omega),hl,List.getElem?_take,if_pos (by omega),List.getElem?_drop]

theorem app_core {cx:Cx} {B:Tabs} (hB:TabsOK cx.P B) {o:Oper} {c:Call} {x y:Operand} {t t' el el' s0 b0 s1 b1:Nat} {z0 z1:List Value} {ti:TI} (A0:Arr) (zs:List A0.α)
    (hone:∀ x,allOne (A0.enc x)=true) (hfx:A0.fx=none) (hty:∀ t',A0.ty=some t' → el=t') (ho:o.op=.call c) (hc:c.callee=.builtin .append) (hca:c.args=#[x,y]) (hct:c.argTypes=#[t,t'])
    (ht:lookT B.T t=some ⟨.slice el,s0,b0,z0⟩) (ht':lookT B.T t'=some ⟨.slice el',s1,b1,z1⟩) (hti:lookT B.T el=some ti) {k k' len st m sz sz':Nat} {ow:Bool}
    (hb1:ti.size=sz) (hb2:sz=sz') (hb3:1≤sz) (hb4:sz=A0.sz) {ρ:Asg} {s:St} {a:Act} {w:World} (hs:Sat cx ρ s a w)
    (hl1:look s.H k=some (true, .arr A0)) (hs2:SatO ρ w k' ow (.arr (A0.setXs zs))) (h1:len≤A0.xs.length) (h2:st+m≤zs.length) (h3:(len+m) * (ti.bytes+1)≤140737488355328)
    (hx1:(SC.s k 0 len sz).rel ρ (a.eval x)) (hy1:(SC.s k' st m sz').rel ρ (a.eval y)) {nx:Nat} (hfr:Fresh nx s) (hlt:nx < s.nx) (hn0:cx.n0≤nx) (hdst:∀ d,o.dst=some d → d < cx.nt∧inMd cx.md d=true)
    {KK:Act → World → Prop} {Q:Exit → Act → World → Prop}
    (hKK:∀ ρ' a' w',Sat cx ρ' { s with e:=putO o.dst (.c (.s nx 0 (len+m) sz)) s.e,H:=[(nx,true, .arr (A0.setXs (A0.xs.take len ++ (zs.drop st).take m))),(k,false, .cells [])] ++ s.H } a' w' → (∀ j,j ∉ [nx] → ρ' j=ρ j) → KK a' w') :
    o.wpIn (fen cx.rd) 0 cx.P a w KK Q:=by
  simp only [SC.rel,Nat.sub_zero,Nat.zero_mul,Nat.zero_add] at hx1 hy1
  obtain ⟨ad,hxv,hcap,had⟩:=hx1
  obtain ⟨ad',hyv,hcap',had'⟩:=hy1
  have hs1:=hs.heap.reg k true _ hl1
  have hszA:(A0.setXs zs).sz=A0.sz:=rfl
  have hsrc:=src_of hB ht' hs2 (c:=(ρ k').cap - st) h2 hone (a:=ad') (fun hm=>by rw [hszA,← hb4,hb2]; exact had' (by omega))
  rw [hszA] at hsrc
  obtain ⟨i,z,hi,hz,hisz,hiby,hzz⟩:=ti_parts hB hti
  have hisz':i.size=A0.sz:=by omega
  have hoff:=hs1.off0 rfl
  have hwf:=hs1.wf
  simp only [SO.wf] at hwf
  have hroom:=fun n hn=>hs1.room rfl (by simp) (by simp) n hn
  simp only [SO.room] at hroom
  have hrun0:=run_builtin (P:=cx.P) ho hc a w
  rw [hca,hct] at hrun0
  have hflat:∀ j,j < m * A0.sz → ∃ v xx cc,zs[st+j / A0.sz]? = some xx∧(A0.enc xx)[j % A0.sz]? = some cc∧(flat w ρ k' (st * A0.sz) (m * A0.sz))[j]? = some v∧cc.rel ρ v:=by
    intro j hj
    have hle:st * A0.sz+m * A0.sz≤zs.length * A0.sz:=by rw [← Nat.add_mul]; exact Nat.mul_le_mul_right _ h2
    obtain ⟨v,xx,cc,q1,q2,q3,q4⟩:=arr_cell hs2 (n:=st * A0.sz+j) (by simp only [Arr.setXs]; omega)
    simp only [Arr.setXs] at q1 q2
    have e1:(st * A0.sz+j) / A0.sz=st+j / A0.sz:=by rw [Nat.mul_comm,Nat.mul_add_div (by omega)]
    have e2:(st * A0.sz+j) % A0.sz=j % A0.sz:=by rw [Nat.mul_comm,Nat.mul_add_mod]
    rw [e1] at q1; rw [e2] at q2
    exact⟨v,xx,cc,q1,q2,by rw [flat_get hj,q3]; rfl,q4⟩
  have hbelow:(SO.arr (A0.setXs (A0.xs.take len ++ (zs.drop st).take m))).below s.nx:=fun j hj=>(hs.bnd.heap k true _ hl1).2 j hj
  have hnmf:∀ {r:Rg} {j:Nat},(SO.arr A0).uses [j]=true → upd ρ nx r j=ρ j:=fun hj=>upd_ne (by rintro rfl; have:=(hfr.heap k true _ hl1).2; rw [hj] at this; cases this)
  have hrelf:∀ {r:Rg} {xx:A0.α} {j:Nat} {cc:SC} {v:Value},(A0.enc xx)[j]? = some cc → cc.rel ρ v → cc.rel (upd ρ nx r) v:=fun hj hcc =>
    SC.rel_agree (fun n hn=>hnmf (anyMem_iff.2 ⟨n,A0.hn _ _ (List.mem_of_getElem? hj) n hn,by simp⟩)) hcc
  have hlenM:(A0.xs.take len ++ (zs.drop st).take m).length=len+m:=by simp; omega
  by_cases hfits:len+m≤(ρ k).cap
  ·
    have hle3:(len+m) * A0.sz≤(ρ k).cap * A0.sz:=Nat.mul_le_mul_right _ hfits
    rw [Nat.add_mul] at hle3
    have hrun:(execOp a.eval o).run cx.P w=.ok (.value (.slice ad (len+m) (ρ k).cap)) (setCells w (ρ k).blk (len * A0.sz) (flat w ρ k' (st * A0.sz) (m * A0.sz))):=by
      rw [hrun0]
      rcases Nat.eq_zero_or_pos (ρ k).cap with hc0 | hc0
      · have hl0:len=0:=by omega
        have hm0:m=0:=by omega
        subst hl0; subst hm0
        simp only [Nat.zero_mul,flat,setCells]
        simp only [Nat.zero_mul,flat] at hsrc
        have hcells:=hsrc.cells
        have hlen:=hsrc.len
        rw [← hisz'] at hcells
        cases ad <;> simp [builtin,Builtin.append_,run_underlying (und_slice hB ht),run_underlying (und_slice hB ht'),sizeOf,typeInfo,hi,hxv,hyv,hlen,hcells,storeCells,hc0]
      · have hsrc':=hsrc
        rw [← hisz'] at hsrc'
        have:=run_append_room_src (P:=cx.P) w t t' o.type el i (und_slice hB ht) hi (ρ k).blk 0 len (ρ k).cap _ m _ hsrc' hfits (fun j hj=>by
          have:=(hroom (len * A0.sz+j) (by rw [hisz',flat_length] at hj; omega)).1
          obtain ⟨v,hv⟩:=this
          simp only [adr,hoff,Nat.zero_add] at hv
          simp [hisz',hv]) (fun j hj=>by
          have:=(hroom (len * A0.sz+j) (by rw [hisz',flat_length] at hj; omega)).2
          simpa [adr,hoff,hisz'] using this)
        have had0:ad=some ⟨(ρ k).blk,0,none⟩:=by rw [had hc0]; simp [adr,hoff]
        simp only [List.map_toArray,List.map_cons,List.map_nil,builtin,hxv,hyv,had0,Sem.run_bind,this,Result.andThen_ok,Sem.run_pure,Nat.zero_add,setCells_kit,hisz']
    refine wpIn_of_value (by simp [ho]) hrun (hKK (upd ρ nx ⟨(ρ k).blk,(ρ k).off,(ρ k).cap,[]⟩) _ _ ?_ (fun j hj=>upd_ne (by simpa using hj)))
    have hsat:=hs.retake (n:=len * A0.sz) (cap:=(ρ k).cap) (vs:=flat w ρ k' (st * A0.sz) (m * A0.sz)) (o':=.arr (A0.setXs (A0.xs.take len ++ (zs.drop st).take m))) hl1 hfr hlt hn0
      (by simp [SO.room,Arr.setXs]) (fun h0=>by
        simp only [SO.room] at h0
        have:m * A0.sz=0:=by omega
        rw [this]; rfl) hbelow ?_
    · refine hsat.putO hdst ?_ (by rw [SV.below_c]; intro j hj; simp [SC.nms] at hj; subst hj; exact hlt)
      simp only [SV.rel,SC.rel,upd_eq,Nat.sub_zero,Nat.zero_mul,Nat.zero_add]
      exact⟨ad,rfl,hfits,fun hpos=>by rw [had hpos]; simp [adr,upd_eq]⟩
    · have hcellS:=setCells_cell w (ρ k).blk (len * A0.sz) (flat w ρ k' (st * A0.sz) (m * A0.sz)) (fun j hj=>by
        rw [flat_length] at hj
        have:=(hroom (len * A0.sz+j) (by omega)).1
        simpa [adr,hoff] using this)
      refine⟨by simp only [SO.wf,Arr.setXs,upd_eq]; rw [hlenM]; exact hfits, ?_, ?_,fun _=>by rw [upd_eq]; exact hoff,(fun _ h=>by cases h),(fun _ h=>by cases h),(fun n h=>by rw [upd_eq]; exact hs1.fixd n h),(fun t h hr=>by rw [upd_eq] at hr ⊢; exact setCells_typ _ _ _ (hs1.typd t h hr))⟩
      · intro i' j cc hcc
        rw [setXs_cell] at hcc
        cases hxx:(A0.xs.take len ++ (zs.drop st).take m)[i']? with
        | none=>simp [hxx] at hcc
        | some xx =>
          simp only [hxx,Option.bind_some] at hcc
          have hi':i' < len+m:=by have:=(List.getElem?_eq_some_iff.1 hxx).1; omega
          have hj:j < A0.sz:=by have:=(List.getElem?_eq_some_iff.1 hcc).1; rw [A0.hl] at this; exact this
          rw [app_get h1 h2 hi'] at hxx
          simp only [adr,upd_eq,hoff,Nat.zero_add,SO.sz,Arr.setXs,hcellS,flat_length]
          by_cases hil:i' < len
          · rw [if_pos hil] at hxx
            have hle2:i' * A0.sz+j < len * A0.sz:=by
              have:=Nat.mul_le_mul_right A0.sz (show i'+1≤len from hil)
              rw [Nat.add_mul] at this; omega
            rw [if_neg (by omega)]
            obtain ⟨v,hv,hvr⟩:=hs1.at_ i' j cc (by simp only [SO.cell?,hxx]; exact hcc)
            exact⟨v,by simpa [adr,hoff,SO.sz] using hv,hrelf hcc hvr⟩
          · rw [if_neg hil] at hxx
            have hge:len * A0.sz≤i' * A0.sz:=Nat.mul_le_mul_right _ (by omega)
            have hle2:i' * A0.sz+j < len * A0.sz+m * A0.sz:=by
              have:=Nat.mul_le_mul_right A0.sz (show i'+1≤len+m from hi')
              rw [Nat.add_mul,Nat.add_mul] at this; omega
            rw [if_pos ⟨by omega,hle2⟩]
            have hsub:i' * A0.sz+j - len * A0.sz=(i' - len) * A0.sz+j:=by
              rw [Nat.sub_mul]; omega
            obtain ⟨v,x2,c2,q1,q2,q3,q4⟩:=hflat ((i' - len) * A0.sz+j) (by omega)
            have e1:((i' - len) * A0.sz+j) / A0.sz=i' - len:=by rw [Nat.mul_comm,Nat.mul_add_div (by omega),Nat.div_eq_of_lt hj]; simp
            have e2:((i' - len) * A0.sz+j) % A0.sz=j:=by rw [Nat.mul_comm,Nat.mul_add_mod,Nat.mod_eq_of_lt hj]
            rw [e1,hxx] at q1; rw [e2] at q2
            simp at q1; subst q1
            rw [hcc] at q2; simp at q2; subst q2
            exact⟨v,by rw [hsub]; exact q3,hrelf hcc q4⟩
      · intro _ _ _ n hn
        simp only [SO.room,Arr.setXs,upd_eq] at hn
        simp only [adr,upd_eq,hoff,Nat.zero_add]
        have:=hroom n hn
        simp only [adr,hoff,Nat.zero_add] at this
        refine⟨?_,by rw [setCells_frozen]; exact this.2⟩
        rw [hcellS]
        by_cases hin:len * A0.sz≤n∧n < len * A0.sz+(flat w ρ k' (st * A0.sz) (m * A0.sz)).length
        · rw [if_pos hin]
          exact⟨(flat w ρ k' (st * A0.sz) (m * A0.sz))[n - len * A0.sz]'(by omega),by rw [List.getElem?_eq_getElem]⟩
        · rw [if_neg hin]; exact this.1
  ·
    have hsrc':=hsrc
    rw [← hisz'] at hsrc'
    have hsrc1:SatO ρ w k true (.arr A0):=hs1
    have hold:=src_of hB ht hs1 (st:=0) (m:=len) (c:=(ρ k).cap) (by omega) hone (a:=ad) (fun hpos=>by rw [had (by omega)]; simp)
    have hrunA:=run_append_grow_src (P:=cx.P) w t t' o.type el i z (und_slice hB ht) hi hz ad len (ρ k).cap (flat w ρ k (0 * A0.sz) (len * A0.sz)) (by rw [hisz']; exact hold.cellsD) _ m _ hsrc' (by omega)
      (by
        have:(len+m) * 1≤(len+m) * (ti.bytes+1):=Nat.mul_le_mul_left _ (by omega)
        omega) (growslice_fits (by omega) (by
        have:(len+m) * i.bytes≤(len+m) * (ti.bytes+1):=Nat.mul_le_mul_left _ (by omega)
        omega))
    have hge:=grownCap_ge w (len+m) (ρ k).cap el
    generalize hgc:grownCap w (len+m) (ρ k).cap el=gc at hrunA hge
    have hrun:(execOp a.eval o).run cx.P w=.ok (.value (.slice (some ⟨w.heap.size,0,none⟩) (len+m) gc))
        (w.drew.alloc (.cells ((flat w ρ k (0 * A0.sz) (len * A0.sz) ++ flat w ρ k' (st * A0.sz) (m * A0.sz)).toArray ++ Builtin.zeroCells z.cells (gc - (len+m))) el)):=by
      rw [hrun0]
      simp only [List.map_toArray,List.map_cons,List.map_nil,builtin,hxv,hyv,Sem.run_bind,hrunA,Result.andThen_ok,Sem.run_pure,hisz']
    refine wpIn_of_value (by simp [ho]) hrun (hKK (upd ρ nx ⟨w.heap.size,0,gc,[]⟩) _ _ ?_ (fun j hj=>upd_ne (by simpa using hj)))
    have hzsz:z.cells.size=A0.sz:=by
      have:=congrArg List.length hzz
      rw [← hb4,← hb1]
      have hz2:=hB.zsz el ti hti
      simpa [hz2] using this
    have hdr:=hs.drop (hs.bnd.heap k true _ hl1).1
    have hfr':Fresh nx { s with H:=(k,false,SO.cells []) :: s.H }:=⟨hfr.env,hfr.mks,fun j own q hj=>by
      rw [look_cons] at hj
      by_cases hjk:j=k
      · rw [if_pos hjk] at hj; simp at hj; obtain ⟨_,rfl⟩:=hj
        exact⟨by rw [hjk]; exact (hfr.heap k true _ hl1).1,by simp [SO.uses,usesL]⟩
      · rw [if_neg hjk] at hj; exact hfr.heap j own q hj⟩
    have hsat:=hdr.newAt (k:=nx) (cap:=gc) (o:=.arr (A0.setXs (A0.xs.take len ++ (zs.drop st).take m)))
      (ob:=.cells ((flat w ρ k (0 * A0.sz) (len * A0.sz) ++ flat w ρ k' (st * A0.sz) (m * A0.sz)).toArray ++ Builtin.zeroCells z.cells (gc - (len+m))) el (0,0)) hfr' hlt hn0 hbelow ?_
    · refine (hsat.eqHeap (w':=w.drew.alloc _) rfl).putO hdst ?_ (by rw [SV.below_c]; intro j hj; simp [SC.nms] at hj; subst hj; exact hlt)
      simp only [SV.rel,SC.rel,upd_eq,Nat.sub_zero,Nat.zero_mul,Nat.zero_add]
      exact⟨_,rfl,hge,fun _=>by simp [adr,upd_eq]⟩
    · refine satO_new_arr ?_ ?_ ?_ (fun n h=>by rw [show (A0.setXs (A0.xs.take len ++ (zs.drop st).take m)).fx=A0.fx from rfl,hfx] at h; cases h) hty
      · simp only [Arr.setXs]; rw [hlenM]; exact hge
      · simp only [Arr.setXs,Array.size_append,List.size_toArray,List.length_append,flat_length,size_zeroCells,hzsz]
        rw [← Nat.add_mul,← Nat.add_mul]; congr 1; omega
      · intro i' xx hxx j cc hcc
        replace hxx:(A0.xs.take len ++ (zs.drop st).take m)[i']? = some xx:=hxx
        replace hcc:(A0.enc xx)[j]? = some cc:=hcc
        show ∃ v,_=some v∧_
        have hsz9:(A0.setXs (A0.xs.take len ++ (zs.drop st).take m)).sz=A0.sz:=rfl
        rw [hsz9]
        have hi':i' < len+m:=by have:=(List.getElem?_eq_some_iff.1 hxx).1; omega
        have hj:j < A0.sz:=by
          have h8:j < (A0.enc xx).length:=(List.getElem?_eq_some_iff.1 hcc).1
          have h9:=A0.hl xx
          omega
        rw [app_get h1 h2 hi'] at hxx
        have hle2:i' * A0.sz+j < (len+m) * A0.sz:=by
          have:=Nat.mul_le_mul_right A0.sz (show i'+1≤len+m from hi')
          rw [Nat.add_mul] at this; omega
        rw [Nat.add_mul] at hle2
        rw [Array.getElem?_append_left (by simp [flat_length]; omega)]
        simp only [List.getElem?_toArray]
        by_cases hil:i' < len
        · rw [if_pos hil] at hxx
          have hle3:i' * A0.sz+j < len * A0.sz:=by
            have:=Nat.mul_le_mul_right A0.sz (show i'+1≤len from hil)
            rw [Nat.add_mul] at this; omega
          rw [List.getElem?_append_left (by rw [flat_length]; exact hle3),flat_get hle3]
          obtain ⟨v,hv,hvr⟩:=hs1.at_ i' j cc (by simp only [SO.cell?,hxx]; exact hcc)
          refine⟨v, ?_,hrelf hcc hvr⟩
          simp only [SO.sz] at hv
          simp [hv]
        · rw [if_neg hil] at hxx
          have hge2:len * A0.sz≤i' * A0.sz:=Nat.mul_le_mul_right _ (by omega)
          rw [List.getElem?_append_right (by rw [flat_length]; omega),flat_length]
          have hsub:i' * A0.sz+j - len * A0.sz=(i' - len) * A0.sz+j:=by
            rw [Nat.sub_mul]; omega
          obtain ⟨v,x2,c2,q1,q2,q3,q4⟩:=hflat ((i' - len) * A0.sz+j) (by omega)
          have e1:((i' - len) * A0.sz+j) / A0.sz=i' - len:=by rw [Nat.mul_comm,Nat.mul_add_div (by omega),Nat.div_eq_of_lt hj]; simp
          have e2:((i' - len) * A0.sz+j) % A0.sz=j:=by rw [Nat.mul_comm,Nat.mul_add_mod,Nat.mod_eq_of_lt hj]
          rw [e1,hxx] at q1; rw [e2] at q2
          have q1:=Option.some.inj q1; subst q1
          rw [hcc] at q2; simp at q2; subst q2
          exact⟨v,by rw [hsub]; exact q3,hrelf hcc q4⟩

theorem app_step {cx:Cx} {B:Tabs} (hB:TabsOK cx.P B) {o:Oper} {e:Env} {H:Heap} {nx:Nat} {K:Eff → Prop} {c:Call} {x y:Operand} {t t':TypeId} (A:Arr) (zs:List A.α)
    (hone:∀ x,allOne (A.enc x)=true) (ho:o.op=.call c) (hc:c.callee=.builtin .append) (hca:c.args=#[x,y]) (hct:c.argTypes=#[t,t'])
    (h:appK B A zs t t' (ev e x) (ev e y) H nx K) (hfx:A.fx=none:=by rfl) (hty:∀ el s b z t',lookT B.T t=some ⟨.slice el,s,b,z⟩ → A.ty=some t' → el=t':=by intro _ _ _ _ _ _ h; cases h):∃ F,CallOK cx o e H nx F∧K F:=by
  have hx:x ∈ o.op.operands.toList:=by simp [ho,Op.operands,Call.operands,hc,hca]
  have hy:y ∈ o.op.operands.toList:=by simp [ho,Op.operands,Call.operands,hc,hca]
  unfold appK at h
  split at h
  · rename_i el s0 b0 z0 el' s1 b1 z1 k len sz k' st m sz' ht ht' hex hey
    split at h
    · rename_i ti hti
      obtain ⟨hb,h⟩:=bif_and h
      simp only [Bool.and_eq_true] at hb
      obtain ⟨⟨hb1,hb2⟩,hb3,hb4,hb5⟩:=hb
      have hb1:=Nat.eq_of_beq_eq_true hb1
      have hb2:=Nat.eq_of_beq_eq_true hb2
      have hb3:=Nat.le_of_ble_eq_true hb3
      have hb4:=Nat.eq_of_beq_eq_true hb4
      have hkk:k ≠ k':=by rintro rfl; simp at hb5
      split at h
      · rename_i A0 ow X hlk hlk'
        obtain ⟨⟨rfl,rfl,h1,h2,h3⟩,hK⟩:=h
        refine⟨_,⟨?_, ?_⟩,hK⟩
        rotate_left
        · intro j hj; simp at hj; subst hj; simp
        intro ρ s a w hs hr hk hnew hdst KK Q hKK
        obtain ⟨hfr,hlt,hn0⟩:=hnew nx (by simp)
        have hl1:look s.H k=some (true, .arr A0):=by rw [hk k (by simp)]; exact hlk
        have hl2:look s.H k'=some (ow, .arr (A0.setXs zs)):=by rw [hk k' (by simp)]; exact hlk'
        have hfit:∀ z,z ∈ o.op.operands.toList → (ev e z).rel ρ (a.eval z):=fun z hz=>reads_fit hz (fun t ht=>by rw [← hr t ht]; exact hs.env t)
        have hx1:=hfit x hx
        have hy1:=hfit y hy
        rw [hex] at hx1; rw [hey] at hy1
        exact app_core hB A0 zs hone hfx (fun t' h=>hty _ _ _ _ t' ht h) ho hc hca hct ht ht' hti hb1 hb2 hb3 hb4 hs hl1 (hs.heap.reg k' ow _ hl2) h1 h2 h3 hx1 hy1 hfr hlt hn0 hdst hKK
      · exact h.elim
    · exact h.elim
  · exact h.elim

end Sx
end Go

