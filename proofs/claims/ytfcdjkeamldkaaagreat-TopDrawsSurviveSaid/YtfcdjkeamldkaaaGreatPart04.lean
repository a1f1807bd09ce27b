/-
  A part of the proof that a law answers true: lemmas of a symbolic walk, plain functions, or contracts of the functions walked (SxA, SxB, SxC). Conditions: none.
-/
import Derived.Test.YtfcdjkeamldkaaaGreatPart03
set_option maxRecDepth 100000
set_option linter.unusedVariables false
set_option linter.unusedSimpArgs false
namespace Go
namespace Sx

def rnf:List (Nat × Nat) → Nat → Nat
  | [],k=>k
  | (a,b) :: r,k=>bif Nat.beq k a then b else rnf r k

def keys:Heap → List Nat
  | []=>[]
  | (k,_) :: r=>k :: keys r

def nodupB:List Nat → Bool
  | []=>true
  | x :: r=>bif memN x r then false else nodupB r

def mapN (f:Nat → Nat):List Nat → List Nat
  | []=>[]
  | x :: r=>f x :: mapN f r

def allIn (l:List Nat):List Nat → Bool
  | []=>true
  | x :: r=>bif memN x l then allIn l r else false

def allGeF (n:Nat):List (Nat × Nat) → Bool
  | []=>true
  | (x,_) :: r=>bif Nat.ble n x then allGeF n r else false

def allLt (n:Nat):List Nat → Bool
  | []=>true
  | x :: r=>bif Nat.blt x n then allLt n r else false

def nmsL:List SC → List Nat
  | []=>[]
  | c :: l=>c.nms ++ nmsL l

def nmsT:List (Sum SC (List SC)) → List Nat
  | []=>[]
  | .inl c :: l=>c.nms ++ nmsT l
  | .inr cs :: l=>nmsL cs ++ nmsT l

def SV.nms:SV → List Nat
  | .c x=>x.nms
  | .agg l=>nmsL l
  | .tup l=>nmsT l
  | .pk _ l=>nmsL l

def SO.nms:SO → List Nat
  | .cel _ l=>nmsL l
  | .arr a=>a.nm
  | .raw _=>[]
  | .box _=>[]

def nmsV:List SV → List Nat
  | []=>[]
  | s :: l=>s.nms ++ nmsV l

def nmsH:Heap → List Nat
  | []=>[]
  | (k,_,o) :: r=>k :: (o.nms ++ nmsH r)

theorem allLt_iff {n:Nat} {l:List Nat}:allLt n l=true ↔ ∀ k ∈ l,k < n:=by
  induction l with
  | nil=>simp [allLt]
  | cons x r ih =>
    simp only [allLt,List.mem_cons,forall_eq_or_imp]
    cases h:Nat.blt x n with
    | true=>have:=Eq.mp Nat.blt_eq h; simp [ih,this]
    | false => have : ¬ x < n := by rw [← Nat.blt_eq, h]; simp
               simp [this]

theorem allIn_iff {m l:List Nat}:allIn m l=true ↔ ∀ k ∈ l,k ∈ m:=by
  induction l with
  | nil=>simp [allIn]
  | cons x r ih =>
    simp only [allIn,List.mem_cons,forall_eq_or_imp]
    cases h:memN x m with
    | true=>simp [ih,memN_iff.1 h]
    | false => have : ¬ x ∈ m := by rw [← memN_iff, h]; simp
               simp [this]

theorem mem_nmsL {l:List SC} {k:Nat}:k ∈ nmsL l ↔ ∃ c ∈ l,k ∈ c.nms:=by
  induction l with
  | nil=>simp [nmsL]
  | cons c l ih=>simp [nmsL,ih]

theorem usesL_nms {l:List SC} {k:Nat}:usesL [k] l=true ↔ k ∈ nmsL l:=by
  rw [usesL_iff,mem_nmsL]
  constructor
  · rintro ⟨c,hc,hu⟩
    obtain ⟨j,hj,hm⟩:=SC.uses_iff.1 hu
    simp at hm; subst hm; exact⟨c,hc,hj⟩
  · rintro ⟨c,hc,hk⟩
    exact⟨c,hc,SC.uses_iff.2 ⟨k,hk,by simp⟩⟩

theorem usesT_nms {k:Nat}:∀ {l:List (Sum SC (List SC))},usesT [k] l=true ↔ k ∈ nmsT l
  | []=>by simp [usesT,nmsT]
  | .inl c :: l=>by
    simp only [usesT,nmsT,List.mem_append]
    have hc:c.uses [k]=true ↔ k ∈ c.nms:=by rw [SC.uses_iff]; simp
    cases h:c.uses [k] with
    | true=>simp [hc.1 h]
    | false =>
      have:¬ k ∈ c.nms:=fun hh=>by rw [hc.2 hh] at h; cases h
      simp [usesT_nms,this]
  | .inr c :: l=>by
    simp only [usesT,nmsT,List.mem_append]
    cases h:usesL [k] c with
    | true=>simp [usesL_nms.1 h]
    | false =>
      have:¬ k ∈ nmsL c:=fun hh=>by rw [usesL_nms.2 hh] at h; cases h
      simp [usesT_nms,this]

theorem SV.uses_nms {s:SV} {k:Nat}:s.uses [k]=true ↔ k ∈ s.nms:=by
  cases s with
  | c x=>simp only [SV.uses,SV.nms]; rw [SC.uses_iff]; simp
  | agg l=>exact usesL_nms
  | tup l=>exact usesT_nms
  | pk _ l=>exact usesL_nms

theorem SO.uses_nms {o:SO} {k:Nat}:o.uses [k]=true ↔ k ∈ o.nms:=by
  cases o with
  | cel ty l=>exact usesL_nms
  | arr a=>simp only [SO.uses,SO.nms]; rw [anyMem_iff]; simp
  | raw l=>simp [SO.uses,SO.nms]
  | box l=>simp [SO.uses,SO.nms]

theorem look_nms {H:Heap} {k:Nat} {x:Bool × SO} (h:look H k=some x):k ∈ nmsH H∧∀ j ∈ x.2.nms,j ∈ nmsH H:=by
  induction H with
  | nil=>simp [look] at h
  | cons p r ih =>
    obtain ⟨j,own,o⟩:=p
    rw [look_cons] at h
    by_cases hk:k=j
    · rw [if_pos hk] at h; simp at h; subst h
      exact⟨by simp [nmsH,hk],fun i hi=>by simp [nmsH]; exact .inr (.inl hi)⟩
    · rw [if_neg hk] at h
      have:=ih h
      exact⟨by simp [nmsH,this.1],fun i hi=>by simp [nmsH,this.2 i hi]⟩

theorem look_keys {H:Heap} {k:Nat} {x:Bool × SO} (h:look H k=some x):k ∈ keys H:=by
  induction H with
  | nil=>simp [look] at h
  | cons p r ih =>
    obtain ⟨j,o⟩:=p
    rw [look_cons] at h
    by_cases hk:k=j
    · simp [keys,hk]
    · rw [if_neg hk] at h; simp [keys,ih h]

theorem look_of_keys {H:Heap} {k:Nat} (h:k ∈ keys H):∃ x,look H k=some x:=by
  induction H with
  | nil=>cases h
  | cons p r ih =>
    obtain ⟨j,o⟩:=p
    rw [look_cons]
    by_cases hk:k=j
    · rw [if_pos hk]; exact⟨_,rfl⟩
    · rw [if_neg hk]; exact ih (by simpa [keys,hk] using h)

theorem mem_mapN {f:Nat → Nat} {l:List Nat} {k:Nat}:k ∈ mapN f l ↔ ∃ j ∈ l,f j=k:=by
  induction l with
  | nil=>simp [mapN]
  | cons x r ih=>simp [mapN,ih,eq_comm]

theorem nodupB_inj {f:Nat → Nat}:∀ {l:List Nat},nodupB (mapN f l)=true → ∀ a ∈ l,∀ b ∈ l,f a=f b → a=b
  | [],_,a,ha,_,_,_=>by cases ha
  | x :: r,h,a,ha,b,hb,hab=>by
    simp only [mapN,nodupB] at h
    cases hm:memN (f x) (mapN f r) with
    | true=>simp [hm] at h
    | false =>
      simp [hm] at h
      have hnot:∀ y ∈ r,f y ≠ f x:=by
        intro y hy he
        have:f x ∈ mapN f r:=mem_mapN.2 ⟨y,hy,he⟩
        rw [← memN_iff,hm] at this; cases this
      rcases List.mem_cons.1 ha with h1 | h1
      · rcases List.mem_cons.1 hb with h2 | h2
        · exact h1.trans h2.symm
        · exact absurd (by rw [← hab,h1]) (hnot b h2)
      · rcases List.mem_cons.1 hb with h2 | h2
        · exact absurd (by rw [hab,h2]) (hnot a h1)
        · exact nodupB_inj h a h1 b h2 hab

theorem rnf_lt {τ:List (Nat × Nat)} {n k:Nat} (h:allGeF n τ=true) (hk:k < n):rnf τ k=k:=by
  induction τ with
  | nil=>rfl
  | cons p r ih =>
    obtain ⟨a,b⟩:=p
    simp only [allGeF] at h
    cases ha:Nat.ble n a with
    | false=>simp [ha] at h
    | true =>
      simp [ha] at h
      have:=Nat.le_of_ble_eq_true ha
      simp only [rnf]
      cases hb:Nat.beq k a with
      | true=>have:=Nat.eq_of_beq_eq_true hb; omega
      | false=>simpa using ih h

theorem look_append {A B:Heap} {k:Nat}:look (A ++ B) k=(look A k).or (look B k):=by
  induction A with
  | nil=>simp [look]
  | cons p r ih =>
    obtain ⟨j,o⟩:=p
    simp only [List.cons_append,look_cons]
    by_cases hk:k=j
    · simp [hk]
    · simp [hk,ih]

theorem bif_and {b:Bool} {p:Prop} (h:bif b then p else False):b=true∧p:=by cases b <;> simp_all

def bit (d:Nat):Nat:=Nat.shiftLeft 1 d

theorem bitAt_testBit (m i:Nat):bitAt m i=m.testBit i:=by
  simp only [bitAt,Nat.testBit]
  show Nat.beq ((m >>> i) &&& 1) 1=(1 &&& (m >>> i) != 0)
  rw [Nat.and_comm 1,Nat.and_one_is_mod]
  rcases Nat.mod_two_eq_zero_or_one (m >>> i) with h | h <;> rw [h] <;> rfl

theorem SatO.eqHeap {ρ:Asg} {w w':World} {k:Nat} {own:Bool} {o:SO} (h:SatO ρ w k own o) (e:w'.heap=w.heap):SatO ρ w' k own o :=
  h.world fun _ _ _=>by rw [e]

theorem SatH.eqHeap {w0:World} {M:List Nat} {ρ:Asg} {H:Heap} {w w':World} (h:SatH w0 M ρ H w) (e:w'.heap=w.heap) (eio:w'.os=w.os∧w'.output=w.output:=by exact⟨rfl,rfl⟩) (equ:w'.tape=w.tape∧w.drawn≤w'.drawn:=by first | exact⟨rfl,Nat.le_refl _⟩ | exact⟨rfl,Nat.le_add_right _ _⟩):SatH w0 M ρ H w' where
  frm:=⟨by rw [e]; exact h.frm.size,fun b hb hM=>by rw [e]; exact h.frm.same b hb hM,⟨eio.1.trans h.frm.io.1,eio.2.trans h.frm.io.2⟩,equ.1.trans h.frm.quiet.1,Nat.le_trans h.frm.quiet.2 equ.2⟩
  reg k own o hl:=(h.reg k own o hl).eqHeap e
  apart:=h.apart
  fresh:=h.fresh
  valid k own o hl hr:=by rw [e]; exact h.valid k own o hl hr

theorem Sat.eqHeap {cx:Cx} {ρ:Asg} {s:St} {a:Act} {w w':World} (h:Sat cx ρ s a w) (e:w'.heap=w.heap) (eio:w'.os=w.os∧w'.output=w.output:=by exact⟨rfl,rfl⟩) (equ:w'.tape=w.tape∧w.drawn≤w'.drawn:=by first | exact⟨rfl,Nat.le_refl _⟩ | exact⟨rfl,Nat.le_add_right _ _⟩):Sat cx ρ s a w' :=
  { size:=h.size,defers:=h.defers,env:=h.env,heap:=h.heap.eqHeap e eio equ,bnd:=h.bnd,base:=h.base,keep:=h.keep,n0:=h.n0 }

end Sx
end Go

namespace Go
namespace Sx

def rO:Operand → List Nat → List Nat
  | .tmp t,l=>t :: l
  | _,l=>l

def rOs:List Operand → List Nat → List Nat
  | [],l=>l
  | x :: r,l=>rO x (rOs r l)

def rPs:List (Nat × Operand) → List Nat → List Nat
  | [],l=>l
  | (_,x) :: r,l=>rO x (rPs r l)

def rOpt:Option Operand → List Nat → List Nat
  | some x,l=>rO x l
  | none,l=>l

def opReads:Op → Option (List Nat)
  | .move x=>some (rO x [])
  | .assign x=>some (rO x [])
  | .pick c x y=>some (rO c (rO x (rO y [])))
  | .alloc _=>some []
  | .box _ x=>some (rO x [])
  | .build _ ps=>some (rPs ps.toList [])
  | .buildSlice _ _ ps=>some (rPs ps.toList [])
  | .load _ x=>some (rO x [])
  | .store _ x y=>some (rO x (rO y []))
  | .nilCheck x=>some (rO x [])
  | .binOp _ _ x y _=>some (rO x (rO y []))
  | .unOp _ _ x=>some (rO x [])
  | .convert _ _ x=>some (rO x [])
  | .makeFunc _ f c=>some (rOs f.toList (rOs c.toList []))
  | .makeMap _ r=>some (rOpt r [])
  | .makeSlice _ x y=>some (rO x (rO y []))
  | .slice _ x l h m=>some (rO x (rOpt l (rOpt h (rOpt m []))))
  | .fieldAddr _ x _=>some (rO x [])
  | .field _ x _=>some (rO x [])
  | .indexAddr _ x y=>some (rO x (rO y []))
  | .index _ x y=>some (rO x (rO y []))
  | .lookup _ x y _=>some (rO x (rO y []))
  | .mapUpdate _ x y z=>some (rO x (rO y (rO z [])))
  | .extract x _=>some (rO x [])
  | .call c=>(match c.callee with
    | .value f=>some (rO f (rOs c.args.toList []))
    | .builtin _=>some (rOs c.args.toList [])
    | _=>none)
  | _=>none

theorem rO_mem {x:Operand} {l:List Nat} {t:Nat}:t ∈ rO x l ↔ x=.tmp t ∨ t ∈ l:=by
  cases x <;> simp [rO,eq_comm]
theorem rOs_mem {l:List Operand} {r:List Nat} {t:Nat}:t ∈ rOs l r ↔ Operand.tmp t ∈ l ∨ t ∈ r:=by
  induction l with
  | nil=>simp [rOs]
  | cons x l ih=>simp [rOs,rO_mem,ih,or_assoc,eq_comm]
theorem rPs_mem {l:List (Nat × Operand)} {r:List Nat} {t:Nat}:t ∈ rPs l r ↔ (∃ i,(i,Operand.tmp t) ∈ l) ∨ t ∈ r:=by
  induction l with
  | nil=>simp [rPs]
  | cons x l ih =>
    obtain ⟨j,x⟩:=x
    simp only [rPs,rO_mem,ih,List.mem_cons,Prod.mk.injEq]
    constructor
    · rintro (h | ⟨i,h⟩ | h)
      · exact .inl ⟨j, .inl ⟨rfl,h.symm⟩⟩
      · exact .inl ⟨i, .inr h⟩
      · exact .inr h
    · rintro (⟨i,⟨_,h⟩ | h⟩ | h)
      · exact .inl h.symm
      · exact .inr (.inl ⟨i,h⟩)
      · exact .inr (.inr h)
theorem rOpt_mem {x:Option Operand} {l:List Nat} {t:Nat}:t ∈ rOpt x l ↔ x=some (.tmp t) ∨ t ∈ l:=by
  cases x <;> simp [rOpt,rO_mem]

theorem opReads_ok' {op:Op} {l:List Nat} (h:opReads op=some l) {t:Nat} (ht:Operand.tmp t ∈ op.operands.toList):t ∈ l:=by
  cases op
  case call c =>
    simp only [opReads] at h
    simp only [Op.operands,Call.operands] at ht
    cases hc:c.callee <;> simp only [hc] at h ht <;> cases h <;> simp [rO_mem,rOs_mem] at ht ⊢
    · rcases ht with ht | ht
      · exact .inl ht.symm
      · exact .inr ht
    · exact ht
  all_goals simp only [opReads] at h
  all_goals (first | cases h | skip)
  all_goals simp [Op.operands,rO_mem,rOs_mem,rPs_mem,rOpt_mem] at ht ⊢
  all_goals simp_all [eq_comm,or_assoc]

theorem opReads_ok {o:Oper} {l:List Nat} (h:opReads o.op=some l) {t:Nat} (ht:Reads o t):t ∈ l:=opReads_ok' h ht


structure LogE where
  rs:List Nat
  d:Option Nat
  sv:SV
  rd:List Nat
  wr:Heap
  news:List Nat

def LogE.nms (x:LogE):List Nat:=x.sv.nms ++ nmsH x.wr

def appE (p:Env × Heap) (x:LogE):Env × Heap:=(putO x.d x.sv p.1,x.wr ++ p.2)

def appL (p:Env × Heap):List LogE → Env × Heap
  | []=>p
  | x :: r=>appL (appE p x) r

def ovl:List (Nat × Bool) → Env → Env
  | [],e=>e
  | (d,t) :: r,e=>.put d (.c (.b t)) (ovl r e)

def lookB:List (Nat × Bool) → Nat → Option Bool
  | [],_=>none
  | (j,o) :: r,k=>bif Nat.beq k j then some o else lookB r k

def rmB (d:Nat):List (Nat × Bool) → List (Nat × Bool)
  | []=>[]
  | (j,o) :: r=>bif Nat.beq j d then rmB d r else (j,o) :: rmB d r

def rmO:Option Nat → List (Nat × Bool) → List (Nat × Bool)
  | none,g=>g
  | some d,g=>rmB d g

def forceG:List (Nat × Bool) → (List (Nat × Bool) → Prop) → Prop
  | [],K=>K []
  | p :: r,K=>forceG r fun r=>K (p :: r)

theorem forceG_eq {l:List (Nat × Bool)} {K:List (Nat × Bool) → Prop}:forceG l K=K l:=by
  induction l generalizing K with
  | nil=>rfl
  | cons c l ih=>simp [forceG,ih]

def runA (cx:Cx) (B:Tabs) (o:Oper) (gd:List Nat) (s:St) (gs:List (Nat × Bool)) (K:LogE → St → List (Nat × Bool) → Prop):Prop:=match s with
  | ⟨e,H,nx⟩=>match opReads o.op with
  | none=>False
  | some rs=>bif dstOK o.dst cx then opK cx B o (ovl gs e) H nx fun f =>
      forceSV f.sv fun sv=>forceH f.wr [] fun wr=>forceLs f.rd fun rd=>forceLs f.news fun news=>forceN (nx+lenN news) fun nx=>forceLs (gd ++ rs) fun rs=>forceP o.dst sv e fun e=>forceH wr H fun H=>forceG (rmO o.dst gs) fun gs =>
        K ⟨rs,o.dst,sv,rd,wr,news⟩ ⟨e,H,nx⟩ gs
    else False

def skipA (cx:Cx) (o:Oper) (gd:List Nat) (s:St) (gs:List (Nat × Bool)) (K:LogE → St → List (Nat × Bool) → Prop):Prop:=match s with
  | ⟨e,H,nx⟩=>bif dstOK o.dst cx then forceP o.dst (.tup []) e fun e=>forceG (rmO o.dst gs) fun gs=>K ⟨gd,o.dst, .tup [],[],[],[]⟩ ⟨e,H,nx⟩ gs else False

def vcAny (cx:Cx) (B:Tabs) (ops:Array Oper):List Oper → St → List (Nat × Bool) → List LogE → (List LogE → St → List (Nat × Bool) → Prop) → Prop
  | [],s,gs,log,K=>K log.reverse s gs
  | o :: r,s,gs,log,K=>match o.guard with
    | none=>runA cx B o [] s gs fun x s' gs'=>vcAny cx B ops r s' gs' (x :: log) K
    | some (j,want)=>match dstOf ops j with
      | none=>False
      | some d=>match lookB gs d with
        | some t => bif beqB t want then runA cx B o [d] s gs fun x s' gs' => vcAny cx B ops r s' gs' (x :: log) K
                    else skipA cx o [d] s gs fun x s' gs'=>vcAny cx B ops r s' gs' (x :: log) K
        | none=>match s.e.get d with
          | .c (.b t) => bif beqB t want then runA cx B o [d] s gs fun x s' gs' => vcAny cx B ops r s' gs' (x :: log) K
                    else skipA cx o [d] s gs fun x s' gs'=>vcAny cx B ops r s' gs' (x :: log) K
          | .c (.v (.bool t)) =>
            (t=true → bif want then runA cx B o [d] s ((d,true) :: gs) fun x s' gs'=>vcAny cx B ops r s' gs' (x :: log) K
              else skipA cx o [d] s ((d,true) :: gs) fun x s' gs'=>vcAny cx B ops r s' gs' (x :: log) K) ∧
            (t=false → bif want then skipA cx o [d] s ((d,false) :: gs) fun x s' gs'=>vcAny cx B ops r s' gs' (x :: log) K
              else runA cx B o [d] s ((d,false) :: gs) fun x s' gs'=>vcAny cx B ops r s' gs' (x :: log) K)
          | .tup []=>skipA cx o [d] s gs fun x s' gs'=>vcAny cx B ops r s' gs' (x :: log) K
          | _=>False

def isBool (sv:SV) (t:Bool):Prop:=sv=.c (.b t) ∨ sv=.c (.v (.bool t))

def skipG (sv:SV) (want:Bool):Prop:=isBool sv (!want) ∨ sv=.tup []

def gsOK (gs:List (Nat × Bool)) (e:Env):Prop:=∀ d t,(d,t) ∈ gs → isBool (e.get d) t

structure EntOK (cx:Cx) (ops:Array Oper) (p:Env × Heap) (o:Oper) (x:LogE):Prop where
  d:x.d=o.dst
  dst:dstOK o.dst cx=true
  news:∀ k ∈ x.news,cx.n0≤k
  act:((∃ gs f,gsOK gs p.1∧LocalOK cx o (ovl gs p.1) p.2 f∧f.sv=x.sv∧f.rd=x.rd∧f.wr=x.wr∧f.news=x.news∧(∀ t,Reads o t → t ∈ x.rs)) ∧
      (o.guard=none ∨ ∃ j want d,o.guard=some (j,want)∧dstOf ops j=some d∧d ∈ x.rs∧isBool (p.1.get d) want)) ∨
    ((x.sv=.tup []∧x.rd=[]∧x.wr=[]∧x.news=[])∧∃ j want d,o.guard=some (j,want)∧dstOf ops j=some d∧d ∈ x.rs∧skipG (p.1.get d) want)

inductive LogOK (cx:Cx) (ops:Array Oper):Env × Heap → List Oper → List LogE → Prop
  | nil {p}:LogOK cx ops p [] []
  | cons {p o r x l}:EntOK cx ops p o x → LogOK cx ops (appE p x) r l → LogOK cx ops p (o :: r) (x :: l)

theorem LogOK.get {cx:Cx} {ops:Array Oper}:∀ {p:Env × Heap} {l:List Oper} {log:List LogE},LogOK cx ops p l log →
    log.length=l.length∧∀ i o,l[i]? = some o → ∃ x,log[i]? = some x∧EntOK cx ops (appL p (log.take i)) o x
  | _,_,_, .nil=>⟨rfl,by simp⟩
  | _,_,_, .cons (x:=x) h hl=>by
    have ih:=hl.get
    refine⟨by simp [ih.1], ?_⟩
    intro i o ho
    cases i with
    | zero=>simp at ho; subst ho; exact⟨x,by simp,h⟩
    | succ i =>
      obtain ⟨y,hy,he⟩:=ih.2 i o (by simpa using ho)
      exact⟨y,by simpa using hy,by simpa [appL] using he⟩

theorem lookB_mem {gs:List (Nat × Bool)} {d:Nat} {t:Bool} (h:lookB gs d=some t):(d,t) ∈ gs:=by
  induction gs with
  | nil=>simp [lookB] at h
  | cons p r ih =>
    obtain ⟨j,o⟩:=p
    simp only [lookB] at h
    cases hb:Nat.beq d j with
    | true=>simp [hb] at h; subst h; rw [Nat.eq_of_beq_eq_true hb]; exact List.mem_cons_self ..
    | false=>simp [hb] at h; exact List.mem_cons_of_mem _ (ih h)

theorem rmB_mem {d:Nat} {gs:List (Nat × Bool)} {p:Nat × Bool} (h:p ∈ rmB d gs):p ∈ gs∧p.1 ≠ d:=by
  induction gs with
  | nil=>cases h
  | cons q r ih =>
    obtain ⟨j,o⟩:=q
    simp only [rmB] at h
    cases hb:Nat.beq j d with
    | true=>simp [hb] at h; exact⟨List.mem_cons_of_mem _ (ih h).1,(ih h).2⟩
    | false =>
      simp only [hb,cond_false] at h
      rcases List.mem_cons.1 h with rfl | h
      · exact⟨List.mem_cons_self ..,Nat.ne_of_beq_eq_false hb⟩
      · exact⟨List.mem_cons_of_mem _ (ih h).1,(ih h).2⟩

theorem gsOK_rm {gs:List (Nat × Bool)} {e:Env} (h:gsOK gs e) (d:Option Nat) (sv:SV):gsOK (rmO d gs) (putO d sv e):=by
  cases d with
  | none=>exact h
  | some d =>
    intro j t hm
    have:=rmB_mem hm
    simp only [putO]
    rw [get_put,if_neg this.2]
    exact h j t this.1

theorem runA_ok {cx:Cx} {B:Tabs} (hB:TabsOK cx.P B) {ops:Array Oper} {o:Oper} {gd:List Nat} {s:St} {gs:List (Nat × Bool)} {K:LogE → St → List (Nat × Bool) → Prop} (h:runA cx B o gd s gs K)
    (hgs:gsOK gs s.e) (hn:cx.n0≤s.nx) (hg:o.guard=none ∨ ∃ j want d,o.guard=some (j,want)∧dstOf ops j=some d∧d ∈ gd∧isBool (s.e.get d) want) :
    ∃ x s' gs',K x s' gs'∧EntOK cx ops (s.e,s.H) o x∧(s'.e,s'.H)=appE (s.e,s.H) x∧gsOK gs' s'.e∧s.nx≤s'.nx:=by
  obtain ⟨e0,H0,nx0⟩:=s
  simp only [runA] at h
  split at h
  · exact h.elim
  · rename_i rs hrs
    obtain ⟨hd,h⟩:=bif_and h
    obtain ⟨f,hK,hf,hnw⟩:=op_ok hB h
    simp only [forceSV_eq,forceH_eq,forceLs_eq,forceN_eq,forceP_eq,forceG_eq,List.append_nil] at hK
    refine⟨_,_,_,hK,⟨rfl,hd,fun k hk=>Nat.le_trans hn (hnw k hk).1, .inl ⟨⟨gs,f,hgs,hf,rfl,rfl,rfl,rfl,fun t ht=>List.mem_append_right _ (opReads_ok hrs ht)⟩, ?_⟩⟩,rfl,gsOK_rm hgs _ _,Nat.le_add_right _ _⟩
    rcases hg with hg | ⟨j,want,d,h1,h2,h3,h4⟩
    · exact .inl hg
    · exact .inr ⟨j,want,d,h1,h2,List.mem_append_left _ h3,h4⟩

theorem skipA_ok {cx:Cx} {ops:Array Oper} {o:Oper} {gd:List Nat} {s:St} {gs:List (Nat × Bool)} {K:LogE → St → List (Nat × Bool) → Prop} (h:skipA cx o gd s gs K)
    (hgs:gsOK gs s.e) (hg:∃ j want d,o.guard=some (j,want)∧dstOf ops j=some d∧d ∈ gd∧skipG (s.e.get d) want) :
    ∃ x s' gs',K x s' gs'∧EntOK cx ops (s.e,s.H) o x∧(s'.e,s'.H)=appE (s.e,s.H) x∧gsOK gs' s'.e∧s.nx≤s'.nx:=by
  obtain ⟨e0,H0,nx0⟩:=s
  simp only [skipA] at h
  obtain ⟨hd,h⟩:=bif_and h
  simp only [forceP_eq,forceG_eq] at h
  exact⟨_,_,_,h,⟨rfl,hd,by simp, .inr ⟨⟨rfl,rfl,rfl,rfl⟩,hg⟩⟩,rfl,gsOK_rm hgs _ _,Nat.le_refl _⟩

theorem vcAny_ok {cx:Cx} {B:Tabs} (hB:TabsOK cx.P B) {ops:Array Oper} {K:List LogE → St → List (Nat × Bool) → Prop}:∀ (l:List Oper) (s:St) (gs:List (Nat × Bool)) (log:List LogE),
    vcAny cx B ops l s gs log K → gsOK gs s.e → cx.n0≤s.nx → ∃ log' s' gs',K (log.reverse ++ log') s' gs'∧LogOK cx ops (s.e,s.H) l log'∧(s'.e,s'.H)=appL (s.e,s.H) log'∧gsOK gs' s'.e∧s.nx≤s'.nx
  | [],s,gs,log,h,hgs,hn=>⟨[],s,gs,by simpa [vcAny] using h, .nil,rfl,hgs,Nat.le_refl _⟩
  | o :: r,s,gs,log,h,hgs,hn=>by
    have fin:(∃ x s' gs',vcAny cx B ops r s' gs' (x :: log) K∧EntOK cx ops (s.e,s.H) o x∧(s'.e,s'.H)=appE (s.e,s.H) x∧gsOK gs' s'.e∧s.nx≤s'.nx) →
        ∃ log' s' gs',K (log.reverse ++ log') s' gs'∧LogOK cx ops (s.e,s.H) (o :: r) log'∧(s'.e,s'.H)=appL (s.e,s.H) log'∧gsOK gs' s'.e∧s.nx≤s'.nx:=by
      rintro ⟨x,s1,gs1,hK,hx,he,hg1,hle⟩
      obtain ⟨log',s2,gs2,hK2,hl2,he2,hg2,hle2⟩:=vcAny_ok hB r s1 gs1 (x :: log) hK hg1 (Nat.le_trans hn hle)
      refine⟨x :: log',s2,gs2,by simpa using hK2, .cons hx (by rw [← he]; exact hl2),by rw [he2,he]; rfl,hg2,Nat.le_trans hle hle2⟩
    simp only [vcAny] at h
    split at h
    · rename_i hg
      exact fin (runA_ok hB h hgs hn (.inl hg))
    · rename_i j want hg
      split at h
      · exact h.elim
      · rename_i d hd
        have hrun:∀ gs,gsOK gs s.e → isBool (s.e.get d) want → runA cx B o [d] s gs (fun x s' gs'=>vcAny cx B ops r s' gs' (x :: log) K) → _:=fun gs hgs hb h =>
          fin (runA_ok hB h hgs hn (.inr ⟨j,want,d,hg,hd,by simp,hb⟩))
        have hskip:∀ gs,gsOK gs s.e → isBool (s.e.get d) (!want) → skipA cx o [d] s gs (fun x s' gs'=>vcAny cx B ops r s' gs' (x :: log) K) → _:=fun gs hgs hb h =>
          fin (skipA_ok h hgs ⟨j,want,d,hg,hd,by simp, .inl hb⟩)
        have hadd:∀ t,isBool (s.e.get d) t → gsOK ((d,t) :: gs) s.e:=fun t ht j u hm=>by
          rcases List.mem_cons.1 hm with he | hm
          · simp at he; rw [he.1,he.2]; exact ht
          · exact hgs j u hm
        split at h
        · rename_i t ht
          have hb:=hgs d t (lookB_mem ht)
          cases t <;> cases want <;> simp only [beqB,cond_true,cond_false] at h
          · exact hrun gs hgs hb h
          · exact hskip gs hgs hb h
          · exact hskip gs hgs hb h
          · exact hrun gs hgs hb h
        · split at h
          · rename_i t he
            have hb:isBool (s.e.get d) t:=.inl he
            cases t <;> cases want <;> simp only [beqB,cond_true,cond_false] at h
            · exact hrun gs hgs hb h
            · exact hskip gs hgs hb h
            · exact hskip gs hgs hb h
            · exact hrun gs hgs hb h
          · rename_i t he
            have hb:isBool (s.e.get d) t:=.inr he
            cases t
            · have h2:=h.2 rfl
              cases want <;> simp only [cond_true,cond_false] at h2
              · exact hrun _ (hadd _ hb) hb h2
              · exact hskip _ (hadd _ hb) hb h2
            · have h1:=h.1 rfl
              cases want <;> simp only [cond_true,cond_false] at h1
              · exact hskip _ (hadd _ hb) hb h1
              · exact hrun _ (hadd _ hb) hb h1
          · rename_i he
            exact fin (skipA_ok h hgs ⟨j,want,d,hg,hd,by simp, .inr he⟩)
          · exact h.elim

end Sx
end Go

namespace Go
namespace Sx

structure Sound (cx:Cx) (c:Code) (Q:Exit → St → Prop) (s:St):Prop where
  h:∀ (ρ:Asg) (a:Act) (w:World),Sat cx ρ s a w → ∀ (QQ:Exit → Act → World → Prop),
    (∀ ex s' ρ' a' w',Q ex s' → Sat cx ρ' s' a' w' → QQ ex a' w') → c.wpIn (fen cx.rd) 0 cx.P QQ a w


def bindsAny (e:Edge):Bool:=match e.ground with
  | .textOnly _=>false
  | .gcOnly _=>false
  | _=>true

theorem bindsAny_eq (e:Edge):Region.binds .any e=bindsAny e:=by
  unfold Region.binds bindsAny
  cases e.ground <;> rfl

def ancE (A:List (Nat × Nat)) (i:Nat):List Edge → Nat → Option Nat
  | [],m=>some m
  | e :: r,m=>bif bindsAny e then (bif Nat.blt e.on i then (match lookN A e.on with
      | some m'=>ancE A i r (Nat.lor (bit e.on) (Nat.lor m' m))
      | none=>none) else none) else ancE A i r m

def ancsK:List Oper → Nat → List (Nat × Nat) → (List (Nat × Nat) → Prop) → Prop
  | [],_,A,K=>K A
  | o :: r,i,A,K=>match ancE A i o.after.toList 0 with
    | some m=>forceN m fun m=>forceN (i+1) fun j=>ancsK r j ((i,m) :: A) K
    | none=>False

def optIn (d:Option Nat) (l:List Nat):Bool:=match d with
  | some d=>memN d l
  | none=>false

def optEq (d e:Option Nat):Bool:=match d,e with
  | some d,some e=>Nat.beq d e
  | _,_=>false

def conf (x y:LogE):Bool :=
  bif optIn x.d y.rs then true else bif optIn y.d x.rs then true else bif optEq x.d y.d then true else bif anyMem (keys x.wr) y.rd then true else
  bif anyMem (keys x.wr) (keys y.wr) then true else bif anyMem (keys y.wr) x.rd then true else bif anyMem x.news y.nms then true else anyMem y.news x.nms

def chk1 (m:Nat) (y:LogE):List (Nat × LogE) → Bool
  | []=>true
  | (i,x) :: r=>bif conf x y then (bif bitAt m i then (bif anyMem y.news x.nms then false else chk1 m y r) else false) else chk1 m y r

def chkAll (A:List (Nat × Nat)):Nat → List LogE → List (Nat × LogE) → Bool
  | _,[],_=>true
  | i,y :: r,done=>match lookN A i with
    | some m=>bif chk1 m y done then chkAll A (i+1) r ((i,y) :: done) else false
    | none=>false

def allGeN (n:Nat):List Nat → Bool
  | []=>true
  | x :: r=>bif Nat.ble n x then allGeN n r else false

theorem allGeN_ok {n:Nat}:∀ {l:List Nat},allGeN n l=true → ∀ k ∈ l,n≤k
  | [],_,_,h=>by cases h
  | x :: r,h,k,hk=>by
    simp only [allGeN] at h
    cases hb:Nat.ble n x with
    | false=>simp [hb] at h
    | true =>
      simp [hb] at h
      rcases List.mem_cons.1 hk with rfl | hk
      · exact Nat.le_of_ble_eq_true hb
      · exact allGeN_ok h k hk

def newsIn (nx n:Nat):List LogE → Bool
  | []=>true
  | x :: r=>bif allLt n x.news then (bif allGeN nx x.news then newsIn nx n r else false) else false

def forceO2:List (Nat × Bool) → Env → (Env → Prop) → Prop
  | [],e,K=>K e
  | (d,t) :: r,e,K=>forceO2 r e fun e=>K (.put d (.c (.b t)) e)

theorem forceO2_eq {l:List (Nat × Bool)} {e:Env} {K:Env → Prop}:forceO2 l e K=K (ovl l e):=by
  induction l generalizing K with
  | nil=>rfl
  | cons c l ih=>simp [forceO2,ih,ovl]

def drawK (cx:Cx) (B:Tabs) (ops:Array Oper) (Q:St → Prop) (s:St):Prop :=
  ancsK ops.toList 0 [] fun A=>vcAny cx B ops ops.toList s [] [] fun log s' gs =>
    match s' with
    | ⟨e',H',nx'⟩=>bif chkAll A 0 log [] && newsIn s.nx nx' log then forceO2 gs e' fun e'=>Q ⟨e',H',nx'⟩ else False

theorem ovl_get {gs:List (Nat × Bool)} {e:Env} {i:Nat}:(ovl gs e).get i=match lookB gs i with
    | some t=>.c (.b t)
    | none=>e.get i:=by
  induction gs with
  | nil=>rfl
  | cons p r ih =>
    obtain ⟨d,t⟩:=p
    simp only [ovl,lookB]
    rw [get_put]
    cases hb:Nat.beq i d with
    | true=>simp [Nat.eq_of_beq_eq_true hb]
    | false=>rw [if_neg (Nat.ne_of_beq_eq_false hb),ih]; simp

def SVeq (a b:SV):Prop:=a=b ∨ ∃ t,isBool a t∧isBool b t

theorem isBool_rel {ρ:Asg} {sv:SV} {t:Bool} {v:Value} (h:isBool sv t):sv.rel ρ v ↔ v=.bool t:=by
  rcases h with rfl | rfl <;> simp [SV.rel,SC.rel]
theorem isBool_uses {sv:SV} {t:Bool} {ks:List Nat} (h:isBool sv t):sv.uses ks=false:=by
  rcases h with rfl | rfl <;> simp [SV.uses,SC.uses,SC.nms,anyMem]

theorem SVeq.rel {ρ:Asg} {a b:SV} {v:Value} (h:SVeq a b) (hr:a.rel ρ v):b.rel ρ v:=by
  rcases h with rfl | ⟨t,h1,h2⟩
  · exact hr
  · exact (isBool_rel h2).2 ((isBool_rel h1).1 hr)

theorem SVeq.uses {a b:SV} {ks:List Nat} (h:SVeq a b) (hr:b.uses ks=true):a.uses ks=true:=by
  rcases h with rfl | ⟨t,h1,h2⟩
  · exact hr
  · rw [isBool_uses h2] at hr; cases hr

theorem Sat.congr {cx:Cx} {ρ:Asg} {s s':St} {a:Act} {w:World} (h:Sat cx ρ s a w) (he:∀ i,SVeq (s.e.get i) (s'.e.get i)) (hH:∀ k,look s'.H k=look s.H k) (hn:s'.nx=s.nx) (hmk:s'.e.marks=s.e.marks):Sat cx ρ s' a w where
  size:=h.size
  defers:=by rw [hmk]; exact h.defers
  env i:=(he i).rel (h.env i)
  heap :=
    { frm:=h.heap.frm
      reg:=fun k own o hl=>h.heap.reg k own o (by rw [← hH]; exact hl)
      apart:=fun k k' o own' o' hne hl hl'=>h.heap.apart k k' o own' o' hne (by rw [← hH]; exact hl) (by rw [← hH]; exact hl')
      fresh:=fun k o hl=>h.heap.fresh k o (by rw [← hH]; exact hl)
      valid:=fun k own o hl=>h.heap.valid k own o (by rw [← hH]; exact hl) }
  bnd:=⟨fun i k hk=>by rw [hn]; exact h.bnd.env i k ((he i).uses hk),fun k hk=>by rw [hn]; exact h.bnd.mks k (by rw [← hmk]; exact hk),fun k own o hl=>by rw [hn]; exact h.bnd.heap k own o (by rw [← hH]; exact hl)⟩
  base:=h.base
  keep:=h.keep
  n0:=by rw [hn]; exact h.n0

theorem ovl_marks {gs:List (Nat × Bool)} {e:Env}:(ovl gs e).marks=e.marks:=by
  induction gs with
  | nil=>rfl
  | cons p r ih=>obtain ⟨d,t⟩:=p; simpa [ovl,Env.marks] using ih

theorem putO_marks {d:Option Nat} {sv:SV} {e:Env}:(putO d sv e).marks=e.marks:=by cases d <;> rfl

theorem appL_marks:∀ {l:List LogE} {p:Env × Heap},(appL p l).1.marks=p.1.marks
  | [],_=>rfl
  | x :: l,p=>by simp only [appL]; rw [appL_marks]; simp [appE,putO_marks]

def selF (S:Nat → Bool):Nat → List LogE → List LogE
  | _,[]=>[]
  | k,x :: r=>if S k then x :: selF S (k+1) r else selF S (k+1) r

def dIs (t:Nat) (x:LogE):Bool:=x.d == some t
def wIs (k:Nat) (x:LogE):Bool:=memN k (keys x.wr)

theorem app_get_filter {t:Nat}:∀ {l:List LogE} {p q:Env × Heap},p.1.get t=q.1.get t → (appL p l).1.get t=(appL q (l.filter (dIs t))).1.get t
  | [],_,_,h=>h
  | x :: l,p,q,h=>by
    simp only [appL]
    by_cases hx:dIs t x=true
    · rw [List.filter_cons_of_pos hx]
      simp only [appL]
      refine app_get_filter ?_
      simp only [dIs,beq_iff_eq] at hx
      simp [appE,hx,putO,get_put]
    · rw [List.filter_cons_of_neg (by simpa using hx)]
      refine app_get_filter ?_
      simp only [dIs,beq_iff_eq] at hx
      simp only [appE]
      cases hd:x.d with
      | none=>exact h
      | some d =>
        rw [hd] at hx
        simp only [putO]
        rw [get_put,if_neg (by rintro rfl; exact hx rfl)]
        exact h

theorem app_look_filter {k:Nat}:∀ {l:List LogE} {p q:Env × Heap},look p.2 k=look q.2 k → look (appL p l).2 k=look (appL q (l.filter (wIs k))).2 k
  | [],_,_,h=>h
  | x :: l,p,q,h=>by
    simp only [appL]
    have hlk:∀ p:Env × Heap,look (appE p x).2 k=(look x.wr k).or (look p.2 k):=fun p=>look_append
    by_cases hx:wIs k x=true
    · rw [List.filter_cons_of_pos hx]
      simp only [appL]
      refine app_look_filter ?_
      rw [hlk,hlk,h]
    · rw [List.filter_cons_of_neg (by simpa using hx)]
      refine app_look_filter ?_
      rw [hlk,h]
      have:look x.wr k=none:=by
        cases hl:look x.wr k with
        | none=>rfl
        | some y=>exact absurd (memN_iff.2 (look_keys hl)) hx
      simp [this]

theorem sel_take {p:LogE → Bool}:∀ (S:Nat → Bool) (l:List LogE) (k m:Nat),(∀ i x,l[i]? = some x → p x=true → (S (k+i)=true ↔ i < m)) → (selF S k l).filter p=(l.take m).filter p
  | S,[],k,m,h=>by simp [selF]
  | S,x :: l,k,m,h=>by
    have ih:=fun m=>sel_take (p:=p) S l (k+1) m
    simp only [selF]
    by_cases hp:p x=true
    · have h0:=h 0 x (by simp) hp
      by_cases hm:0 < m
      · obtain ⟨m',rfl⟩:∃ m',m=m'+1:=⟨m - 1,by omega⟩
        rw [if_pos (by simpa using h0.2 hm),List.take_succ_cons,List.filter_cons_of_pos hp,List.filter_cons_of_pos hp]
        congr 1
        refine ih m' fun i y hy hpy=>?_
        have:=h (i+1) y (by simpa using hy) hpy
        rw [show k+1+i=k+(i+1) from by omega,this]; omega
      · have hm0:m=0:=by omega
        subst hm0
        rw [if_neg (by intro hs; have:=h0.1 (by simpa using hs); omega)]
        have:=ih 0 fun i y hy hpy=>by
          have:=h (i+1) y (by simpa using hy) hpy
          rw [show k+1+i=k+(i+1) from by omega,this]; omega
        rw [this]; simp
    · cases m with
      | zero =>
        have:=ih 0 fun i y hy hpy=>by
          have:=h (i+1) y (by simpa using hy) hpy
          rw [show k+1+i=k+(i+1) from by omega,this]; omega
        split
        · rw [List.filter_cons_of_neg hp,this]; simp
        · rw [this]; simp
      | succ m =>
        have:=ih m fun i y hy hpy=>by
          have:=h (i+1) y (by simpa using hy) hpy
          rw [show k+1+i=k+(i+1) from by omega,this]; omega
        rw [List.take_succ_cons,List.filter_cons_of_neg hp]
        split
        · rw [List.filter_cons_of_neg hp,this]
        · rw [this]

def insS (S:Nat → Bool) (j:Nat):Nat → Bool:=fun i=>if i=j then true else S i

theorem sel_none:∀ (S S':Nat → Bool) (l:List LogE) (k:Nat),(∀ i,k≤i → S i=S' i) → selF S k l=selF S' k l
  | _,_,[],_,_=>rfl
  | S,S',x :: l,k,h=>by
    simp only [selF]
    rw [h k (Nat.le_refl _),sel_none S S' l (k+1) (fun i hi=>h i (by omega))]

theorem sel_ins {p:LogE → Bool}:∀ (S:Nat → Bool) (l:List LogE) (k j:Nat) (y:LogE),l[j]? = some y → S (k+j)=false → (∀ i x,l[i]? = some x → j < i → p y=true → p x=true → S (k+i)=false) →
    (selF (insS S (k+j)) k l).filter p=(selF S k l ++ [y]).filter p
  | S,[],k,j,y,h,_,_=>by simp at h
  | S,x :: l,k,0,y,h,hs,hl=>by
    simp at h; subst h
    simp only [selF,Nat.add_zero] at hs ⊢
    have h1:insS S k k=true:=by simp [insS]
    rw [if_pos h1,if_neg (by simp [hs]),sel_none (insS S k) S l (k+1) (fun i hi=>by simp only [insS]; rw [if_neg (by omega)])]
    rw [List.filter_append]
    by_cases hp:p x=true
    · rw [List.filter_cons_of_pos hp]
      have hnil:(selF S (k+1) l).filter p=[]:=by
        have:=sel_take (p:=p) S l (k+1) 0 (fun i z hz hpz=>by
          have:=hl (i+1) z (by simpa using hz) (by omega) hp hpz
          rw [show k+1+i=k+(i+1) from by omega,this]; simp)
        rw [this]; simp
      rw [hnil]; simp [hp]
    · rw [List.filter_cons_of_neg hp]; simp [hp]
  | S,x :: l,k,j+1,y,h,hs,hl=>by
    have ih:=sel_ins S l (k+1) j y (by simpa using h) (by rw [show k+1+j=k+(j+1) from by omega]; exact hs) (fun i z hz hij hpy hpz=>by
      have:=hl (i+1) z (by simpa using hz) (by omega) hpy hpz
      rw [show k+1+i=k+(i+1) from by omega]; exact this)
    rw [show k+1+j=k+(j+1) from by omega] at ih
    simp only [selF]
    have h1:insS S (k+(j+1)) k=S k:=by simp only [insS]; rw [if_neg (by omega)]
    rw [h1]
    split
    · rw [List.cons_append,List.filter_cons,List.filter_cons,ih]
    · exact ih

theorem sel_all:∀ (S:Nat → Bool) (l:List LogE) (k:Nat),(∀ i,i < l.length → S (k+i)=true) → selF S k l=l
  | _,[],_,_=>rfl
  | S,x :: l,k,h=>by
    simp only [selF]
    rw [if_pos (by simpa using h 0 (by simp)),sel_all S l (k+1) (fun i hi=>by rw [show k+1+i=k+(i+1) from by omega]; exact h (i+1) (by simpa using hi))]

theorem sel_mem:∀ {S:Nat → Bool} {l:List LogE} {k:Nat} {x:LogE},x ∈ selF S k l → ∃ i,l[i]? = some x∧S (k+i)=true
  | _,[],_,_,h=>by cases h
  | S,y :: l,k,x,h=>by
    simp only [selF] at h
    split at h
    · rename_i hs
      rcases List.mem_cons.1 h with rfl | h
      · exact⟨0,by simp,by simpa using hs⟩
      · obtain ⟨i,h1,h2⟩:=sel_mem h
        exact⟨i+1,by simpa using h1,by rw [show k+(i+1)=k+1+i from by omega]; exact h2⟩
    · obtain ⟨i,h1,h2⟩:=sel_mem h
      exact⟨i+1,by simpa using h1,by rw [show k+(i+1)=k+1+i from by omega]; exact h2⟩

theorem app_get_src:∀ {l:List LogE} {p:Env × Heap} {t:Nat},(appL p l).1.get t=p.1.get t ∨ ∃ x ∈ l,(appL p l).1.get t=x.sv
  | [],_,_=>.inl rfl
  | x :: l,p,t=>by
    simp only [appL]
    rcases app_get_src (l:=l) (p:=appE p x) (t:=t) with h | ⟨y,hy,h⟩
    · rw [h]
      cases hd:x.d with
      | none=>left; simp [appE,hd,putO]
      | some d =>
        by_cases ht:t=d
        · right; exact⟨x,by simp,by simp [appE,hd,putO,get_put,ht]⟩
        · left; simp [appE,hd,putO,get_put,ht]
    · exact .inr ⟨y,List.mem_cons_of_mem _ hy,h⟩

theorem app_look_src:∀ {l:List LogE} {p:Env × Heap} {k:Nat} {o:Bool × SO},look (appL p l).2 k=some o → look p.2 k=some o ∨ ∃ x ∈ l,look x.wr k=some o
  | [],_,_,_,h=>.inl h
  | x :: l,p,k,o,h=>by
    simp only [appL] at h
    rcases app_look_src (l:=l) (p:=appE p x) h with h | ⟨y,hy,h⟩
    · simp only [appE] at h
      rw [look_append] at h
      cases hx:look x.wr k with
      | none=>rw [hx] at h; simp at h; exact .inl h
      | some z=>rw [hx] at h; simp at h; subst h; exact .inr ⟨x,by simp,hx⟩
    · exact .inr ⟨y,List.mem_cons_of_mem _ hy,h⟩

def Closed (ops:Array Oper) (S:Nat → Bool):Prop:=∀ i o,ops[i]? = some o → S i=true → ∀ e ∈ o.after,bindsAny e=true → S e.on=true

def AncOK (ops:Array Oper) (A:List (Nat × Nat)):Prop:=∀ i m,(i,m) ∈ A → ∀ S,Closed ops S → S i=true → ∀ j,bitAt m j=true → S j=true

theorem bitAt_lor (a b j:Nat):bitAt (Nat.lor a b) j=(bitAt a j || bitAt b j):=by
  simp only [bitAt_testBit]; exact Nat.testBit_or a b j
theorem bitAt_bit (a j:Nat):bitAt (bit a) j=true ↔ j=a:=by
  rw [bitAt_testBit]
  show (1 <<< a).testBit j=true ↔ _
  rw [Nat.one_shiftLeft,Nat.testBit_two_pow]
  simp [eq_comm]
theorem bitAt_zero (j:Nat):bitAt 0 j=false:=by rw [bitAt_testBit]; simp

theorem ancE_ok {ops:Array Oper} {A:List (Nat × Nat)} (hA:AncOK ops A) {i:Nat}:∀ (es:List Edge) (m m':Nat),ancE A i es m=some m' →
    (∀ S,Closed ops S → (∀ e ∈ es,bindsAny e=true → S e.on=true) → (∀ j,bitAt m j=true → S j=true) → ∀ j,bitAt m' j=true → S j=true)∧∀ e ∈ es,bindsAny e=true → e.on < i
  | [],m,m',h=>by simp [ancE] at h; subst h; exact⟨fun S _ _ h=>h,by simp⟩
  | e :: r,m,m',h=>by
    simp only [ancE] at h
    cases hb:bindsAny e with
    | false =>
      simp [hb] at h
      have ih:=ancE_ok hA r m m' h
      refine⟨fun S hS he hm=>ih.1 S hS (fun e' he'=>he e' (List.mem_cons_of_mem _ he')) hm,fun e' he' hb'=>?_⟩
      rcases List.mem_cons.1 he' with rfl | he'
      · rw [hb] at hb'; cases hb'
      · exact ih.2 e' he' hb'
    | true =>
      simp only [hb,cond_true] at h
      cases hl:Nat.blt e.on i with
      | false=>simp [hl] at h
      | true =>
        simp only [hl,cond_true] at h
        split at h
        · rename_i mm hmm
          have ih:=ancE_ok hA r _ m' h
          refine⟨fun S hS he hm=>ih.1 S hS (fun e' he'=>he e' (List.mem_cons_of_mem _ he')) ?_,fun e' he' hb'=>?_⟩
          · intro j hj
            rw [bitAt_lor,bitAt_lor] at hj
            simp only [Bool.or_eq_true] at hj
            have hon:=he e (List.mem_cons_self ..) hb
            rcases hj with hj | hj | hj
            · rw [(bitAt_bit _ _).1 hj]; exact hon
            · exact hA _ _ (lookN_mem hmm) S hS hon j hj
            · exact hm j hj
          · rcases List.mem_cons.1 he' with rfl | he'
            · exact Eq.mp Nat.blt_eq hl
            · exact ih.2 e' he' hb'
        · cases h

theorem ancsK_ok {ops:Array Oper} {K:List (Nat × Nat) → Prop}:∀ (l:List Oper) (i:Nat) (A:List (Nat × Nat)),(∀ j,l[j]? = ops[i+j]?) → AncOK ops A → ancsK l i A K →
    ∃ A',K A'∧AncOK ops A'∧∀ j o,l[j]? = some o → ∀ e ∈ o.after,bindsAny e=true → e.on < i+j
  | [],i,A,hl,hA,h=>⟨A,h,hA,by simp⟩
  | o :: r,i,A,hl,hA,h=>by
    simp only [ancsK] at h
    split at h
    · rename_i m hm
      simp only [forceN_eq] at h
      have ho:ops[i]? = some o:=by simpa using (hl 0).symm
      have he:=ancE_ok hA o.after.toList 0 m hm
      have hA':AncOK ops ((i,m) :: A):=by
        intro i' m' hmem S hS hSi j hj
        rcases List.mem_cons.1 hmem with heq | hmem
        · simp at heq; obtain ⟨rfl,rfl⟩:=heq
          refine he.1 S hS (fun e hee hb=>hS _ o ho hSi e (by simpa using hee) hb) (fun j hj=>by rw [bitAt_zero] at hj; cases hj) j hj
        · exact hA i' m' hmem S hS hSi j hj
      obtain ⟨A',hK,hA2,hb⟩:=ancsK_ok r (i+1) _ (fun j=>by have:=hl (j+1); simpa [Nat.add_assoc,Nat.add_comm 1 j] using this) hA' h
      refine⟨A',hK,hA2,fun j o' ho' e hee hb'=>?_⟩
      cases j with
      | zero=>simp at ho'; subst ho'; have:=he.2 e (by simpa using hee) hb'; omega
      | succ j=>have:=hb j o' (by simpa using ho') e hee hb'; omega
    · exact h.elim

theorem chk1_ok {m:Nat} {y:LogE}:∀ {l:List (Nat × LogE)},chk1 m y l=true → ∀ i x,(i,x) ∈ l → conf x y=true → bitAt m i=true∧anyMem y.news x.nms=false
  | [],_,_,_,h,_=>by cases h
  | (i0,x0) :: r,h,i,x,hm,hc=>by
    simp only [chk1] at h
    rcases List.mem_cons.1 hm with he | hm
    · simp at he; obtain ⟨rfl,rfl⟩:=he
      rw [hc] at h; simp only [cond_true] at h
      cases hb:bitAt m i with
      | false=>simp [hb] at h
      | true =>
        simp only [hb,cond_true] at h
        cases hn:anyMem y.news x.nms with
        | true=>simp [hn] at h
        | false=>exact⟨rfl,rfl⟩
    · have hr:chk1 m y r=true:=by
        cases h0:conf x0 y with
        | false=>simpa [h0] using h
        | true =>
          simp only [h0,cond_true] at h
          cases hb:bitAt m i0 with
          | false=>simp [hb] at h
          | true =>
            simp only [hb,cond_true] at h
            cases hn:anyMem y.news x0.nms with
            | true=>simp [hn] at h
            | false=>simpa [hn] using h
      exact chk1_ok hr i x hm hc

theorem chkAll_ok {A:List (Nat × Nat)}:∀ (l:List LogE) (k:Nat) (done:List (Nat × LogE)),chkAll A k l done=true →
    ∀ j y,l[j]? = some y → ∃ m,(k+j,m) ∈ A∧(∀ i x,(i,x) ∈ done → conf x y=true → bitAt m i=true∧anyMem y.news x.nms=false) ∧
      ∀ i x,i < j → l[i]? = some x → conf x y=true → bitAt m (k+i)=true∧anyMem y.news x.nms=false
  | [],_,_,_,j,y,h=>by simp at h
  | z :: l,k,done,h,j,y,hy=>by
    simp only [chkAll] at h
    split at h
    · rename_i m hm
      cases hc:chk1 m z done with
      | false=>simp [hc] at h
      | true =>
        simp only [hc,cond_true] at h
        cases j with
        | zero =>
          simp at hy; subst hy
          exact⟨m,lookN_mem hm,fun i x hi hcf=>chk1_ok hc i x hi hcf,fun i x hi=>by omega⟩
        | succ j =>
          obtain ⟨m',h1,h2,h3⟩:=chkAll_ok l (k+1) ((k,z) :: done) h j y (by simpa using hy)
          refine⟨m',by rw [show k+(j+1)=k+1+j from by omega]; exact h1,fun i x hi=>h2 i x (List.mem_cons_of_mem _ hi),fun i x hij hx hcf=>?_⟩
          cases i with
          | zero=>simp at hx; subst hx; exact h2 k z (List.mem_cons_self ..) hcf
          | succ i =>
            have:=h3 i x (by omega) (by simpa using hx) hcf
            rw [show k+(i+1)=k+1+i from by omega]; exact this
    · cases h

theorem newsIn_ok {nx n:Nat}:∀ {l:List LogE},newsIn nx n l=true → ∀ x ∈ l,∀ k ∈ x.news,nx≤k∧k < n
  | [],_,_,h=>by cases h
  | y :: l,h,x,hx=>by
    simp only [newsIn] at h
    obtain ⟨h1,h⟩:allLt n y.news=true∧(bif allGeN nx y.news then newsIn nx n l else false)=true:=by
      cases h1:allLt n y.news <;> simp_all
    obtain ⟨h2,h⟩:allGeN nx y.news=true∧newsIn nx n l=true:=by
      cases h1:allGeN nx y.news <;> simp_all
    rcases List.mem_cons.1 hx with rfl | hx
    · exact fun k hk=>⟨allGeN_ok h2 k hk,allLt_iff.1 h1 k hk⟩
    · exact newsIn_ok h x hx

theorem conf_d_rs {x y:LogE} {d:Nat} (h1:x.d=some d) (h2:d ∈ y.rs):conf x y=true:=by
  simp [conf,optIn,h1,memN_iff.2 h2]
theorem conf_rs_d {x y:LogE} {d:Nat} (h1:y.d=some d) (h2:d ∈ x.rs):conf x y=true:=by
  have:optIn y.d x.rs=true:=by simp [optIn,h1,memN_iff.2 h2]
  simp only [conf,this]; cases optIn x.d y.rs <;> rfl
theorem conf_d_d {x y:LogE} {d:Nat} (h1:x.d=some d) (h2:y.d=some d):conf x y=true:=by
  have:optEq x.d y.d=true:=by simp [optEq,h1,h2]
  simp only [conf,this]; cases optIn x.d y.rs <;> cases optIn y.d x.rs <;> rfl
theorem conf_wr_rd {x y:LogE} {k:Nat} (h1:k ∈ keys x.wr) (h2:k ∈ y.rd):conf x y=true:=by
  have:anyMem (keys x.wr) y.rd=true:=anyMem_iff.2 ⟨k,h2,h1⟩
  simp only [conf,this]; cases optIn x.d y.rs <;> cases optIn y.d x.rs <;> cases optEq x.d y.d <;> rfl
theorem conf_wr_wr {x y:LogE} {k:Nat} (h1:k ∈ keys x.wr) (h2:k ∈ keys y.wr):conf x y=true:=by
  have:anyMem (keys x.wr) (keys y.wr)=true:=anyMem_iff.2 ⟨k,h2,h1⟩
  simp only [conf,this]; cases optIn x.d y.rs <;> cases optIn y.d x.rs <;> cases optEq x.d y.d <;> cases anyMem (keys x.wr) y.rd <;> rfl
theorem conf_rd_wr {x y:LogE} {k:Nat} (h1:k ∈ keys y.wr) (h2:k ∈ x.rd):conf x y=true:=by
  have:anyMem (keys y.wr) x.rd=true:=anyMem_iff.2 ⟨k,h2,h1⟩
  simp only [conf,this]; cases optIn x.d y.rs <;> cases optIn y.d x.rs <;> cases optEq x.d y.d <;> cases anyMem (keys x.wr) y.rd <;> cases anyMem (keys x.wr) (keys y.wr) <;> rfl
theorem conf_news {x y:LogE} {k:Nat} (h1:k ∈ x.news) (h2:k ∈ y.nms):conf x y=true:=by
  have:anyMem x.news y.nms=true:=anyMem_iff.2 ⟨k,h2,h1⟩
  simp only [conf,this]; cases optIn x.d y.rs <;> cases optIn y.d x.rs <;> cases optEq x.d y.d <;> cases anyMem (keys x.wr) y.rd <;> cases anyMem (keys x.wr) (keys y.wr) <;> cases anyMem (keys y.wr) x.rd <;> rfl
theorem conf_news' {x y:LogE} {k:Nat} (h1:k ∈ y.news) (h2:k ∈ x.nms):conf x y=true:=by
  have:anyMem y.news x.nms=true:=anyMem_iff.2 ⟨k,h2,h1⟩
  simp only [conf,this]; cases optIn x.d y.rs <;> cases optIn y.d x.rs <;> cases optEq x.d y.d <;> cases anyMem (keys x.wr) y.rd <;> cases anyMem (keys x.wr) (keys y.wr) <;> cases anyMem (keys y.wr) x.rd <;> cases anyMem x.news y.nms <;> rfl


theorem nms_sv {x:LogE} {k:Nat} (h:x.sv.uses [k]=true):k ∈ x.nms:=List.mem_append_left _ (SV.uses_nms.1 h)
theorem nms_wr {x:LogE} {k j:Nat} {own:Bool} {o:SO} (h:look x.wr j=some (own,o)) (hk:j=k ∨ o.uses [k]=true):k ∈ x.nms:=by
  have:=look_nms h
  rcases hk with rfl | hk
  · exact List.mem_append_right _ this.1
  · exact List.mem_append_right _ (this.2 k (SO.uses_nms.1 hk))

theorem draw_sound {cx:Cx} {B:Tabs} (hB:TabsOK cx.P B) {id:Nat} {ops:Array Oper} {Q:Exit → St → Prop} {s:St} (h:drawK cx B ops (fun s'=>Q .normal s') s):Sound cx (.region id ops true) Q s:=by
  refine⟨fun ρ a w hs QQ hQ=>?_⟩
  obtain ⟨A,h,hA,hback⟩:=ancsK_ok (ops:=ops) ops.toList 0 [] (by simp) (by intro i m hm; cases hm) h
  obtain ⟨log,s',gs,hK,hlog,hfin,hgs,hle⟩:=vcAny_ok hB ops.toList s [] [] h (by intro d t hm; cases hm) hs.n0
  simp only [List.reverse_nil,List.nil_append] at hK
  obtain ⟨hchk,hq⟩:=bif_and hK
  simp only [forceO2_eq] at hq
  simp only [Bool.and_eq_true] at hchk
  obtain ⟨hchk,hnews⟩:=hchk
  have hchk:=chkAll_ok log 0 [] hchk
  have hnews:=newsIn_ok hnews
  obtain ⟨hlen,hget⟩:=hlog.get
  have hlen':log.length=ops.size:=by simpa using hlen
  simp only [Nat.zero_add] at hchk hback
  -- pairs that meet
  have pair:∀ i j x y,i < j → log[i]? = some x → log[j]? = some y → conf x y=true → (∀ S,Closed ops S → S j=true → S i=true)∧∀ k ∈ y.news,k ∉ x.nms:=by
    intro i j x y hij hx hy hc
    obtain ⟨m,hm,_,h3⟩:=hchk j y hy
    have:=h3 i x hij hx hc
    refine⟨fun S hS hj=>hA j m hm S hS hj i this.1,fun k hk hkx=>?_⟩
    have h4:anyMem y.news x.nms=true:=anyMem_iff.2 ⟨k,hkx,hk⟩
    rw [this.2] at h4; cases h4
  -- the state behind a set of operations
  let stS:(Nat → Bool) → St:=fun S=>⟨(appL (s.e,s.H) (selF S 0 log)).1,(appL (s.e,s.H) (selF S 0 log)).2,s'.nx⟩
  have key:∀ fuel (listed:Array Bool) (ρ:Asg) (a:Act) (w:World),listed.size=ops.size → listed.toList.count false=fuel → Closed ops (fun i=>listed.getD i false) →
      Sat cx ρ (stS fun i=>listed.getD i false) a w → wpAnyIn (fen cx.rd) 0 cx.P .any ops QQ fuel listed a w:=by
    intro fuel
    induction fuel with
    | zero =>
      intro listed ρ a w hsz hcnt hcl hsat
      have hall:∀ i,i < ops.size → listed.getD i false=true:=by
        intro i hi
        have:listed[i]'(by omega) ≠ false:=by
          intro hf
          have hm:false ∈ listed.toList:=by rw [← hf]; simp
          have:=List.count_pos_iff.2 hm
          omega
        simp [Array.getD,show i < listed.size by omega]
        simpa using this
      refine wpAnyIn_done ?_ ?_ 0
      · cases hr:Region.ready .any ops listed with
        | nil=>rfl
        | cons j r =>
          have hj:j ∈ Region.ready .any ops listed:=by rw [hr]; exact List.mem_cons_self ..
          obtain ⟨h1,o,ho,_⟩:=mem_ready.1 hj
          have hlt:j < ops.size:=(Array.getElem?_eq_some_iff.1 ho).1
          have:=hall j hlt
          simp [Array.getD,show j < listed.size by omega] at h1 this
          rw [h1] at this; cases this
      · have hsel:selF (fun i=>listed.getD i false) 0 log=log:=sel_all _ _ _ fun i hi=>by
          simp only [Nat.zero_add]; exact hall i (by omega)
        have e1:stS (fun i=>listed.getD i false)=⟨s'.e,s'.H,s'.nx⟩:=by
          simp only [stS,hsel,← hfin]
        rw [e1] at hsat
        refine hQ _ ⟨ovl gs s'.e,s'.H,s'.nx⟩ ρ a w hq (hsat.congr (fun i=>?_) (fun _=>rfl) rfl ovl_marks)
        simp only [ovl_get]
        cases hg:lookB gs i with
        | none=>exact .inl rfl
        | some t=>exact .inr ⟨t,hgs i t (lookB_mem hg), .inl rfl⟩
    | succ fuel ih =>
      intro listed ρ a w hsz hcnt hcl hsat
      obtain ⟨S,hS⟩:∃ S:Nat → Bool,S=fun i=>listed.getD i false:=⟨_,rfl⟩
      rw [← hS] at hcl hsat
      refine⟨fun hr=>?_,fun j hj=>?_⟩
      · -- something is ready
        exfalso
        have hex:∃ i,i < ops.size∧S i=false:=by
          have hm:false ∈ listed.toList:=List.count_pos_iff.1 (by omega)
          obtain ⟨i,hi,he⟩:=List.mem_iff_getElem.1 hm
          refine⟨i,by simpa [hsz] using hi, ?_⟩
          have hi':i < listed.size:=by simpa using hi
          rw [hS]; simp [Array.getD,hi']
          simpa using he
        have hmin:∀ n i,i < n → i < ops.size → S i=false → ∃ j,j < ops.size∧S j=false∧∀ i,i < j → S i=true:=by
          intro n
          induction n with
          | zero=>intro i hi; omega
          | succ n ihn =>
            intro i hi hio hSi
            by_cases hlow:∃ i',i' < i∧S i'=false
            · obtain ⟨i',h1,h2⟩:=hlow
              exact ihn i' (by omega) (by omega) h2
            · refine⟨i,hio,hSi,fun i' hi'=>?_⟩
              cases hb:S i' with
              | true=>rfl
              | false=>exact absurd ⟨i',hi',hb⟩ hlow
        obtain ⟨i,hio,hSi⟩:=hex
        obtain ⟨j,hjo,hSj,hbefore⟩:=hmin (i+1) i (by omega) hio hSi
        have:j ∈ Region.ready .any ops listed:=by
          refine mem_ready.2 ⟨?_,ops[j],by simp [hjo],fun e he hb=>?_⟩
          · rw [hS] at hSj
            simp [Array.getD,show j < listed.size by omega] at hSj ⊢
            exact hSj
          · rw [bindsAny_eq] at hb
            have:=hbefore e.on (hback j ops[j] (by simp [hjo]) e he hb)
            rw [hS] at this; exact this
        rw [hr] at this; cases this
      · obtain ⟨hun,o,ho,hdeps⟩:=mem_ready.1 hj
        have hjo:j < ops.size:=(Array.getElem?_eq_some_iff.1 ho).1
        have hjl:j < listed.size:=by omega
        have hSj:S j=false:=by
          rw [hS]
          simp [Array.getD,hjl] at hun ⊢
          exact hun
        have ho':ops.toList[j]? = some o:=by simpa using ho
        obtain ⟨x,hx,hent⟩:=hget j o ho'
        -- the set with j
        have hS':(fun i=>(listed.setIfInBounds j true).getD i false)=insS S j:=by
          funext i
          rw [hS]
          simp only [insS]
          by_cases hij:i=j
          · subst hij; simp [Array.getD_eq_getD_getElem?,hjl]
          · have:¬ j=i:=fun h=>hij h.symm
            simp [Array.getD_eq_getD_getElem?,Array.getElem?_setIfInBounds,hij,this]
        have hcl':Closed ops (insS S j):=by
          intro i oi hoi hsi e he hb
          have hone:S e.on=true:=by
            by_cases hij:i=j
            · subst hij
              rw [ho] at hoi; simp at hoi; subst hoi
              have:=hdeps e he (by rw [bindsAny_eq]; exact hb)
              rw [hS]; exact this
            · simp only [insS] at hsi; rw [if_neg hij] at hsi
              exact hcl i oi hoi hsi e he hb
          simp only [insS]; split
          · rfl
          · exact hone
        have hins:∀ i,i ≠ j → insS S j i=S i:=fun i hi=>by simp only [insS]; rw [if_neg hi]
        have hinsj:insS S j j=true:=by simp [insS]
        have hbef:∀ i y,i < j → log[i]? = some y → conf y x=true → S i=true:=fun i y hij hy hc=>by
          rw [← hins i (by omega)]
          exact (pair i j y x hij hy hx hc).1 _ hcl' hinsj
        have haft:∀ i y,j < i → log[i]? = some y → conf x y=true → S i=false:=fun i y hij hy hc=>by
          cases hb:S i with
          | false=>rfl
          | true =>
            have:=(pair j i x y hij hx hy hc).1 _ hcl hb
            rw [hSj] at this; cases this
        -- what j reads is there
        have hslot:∀ t ∈ x.rs,(stS S).e.get t=(appL (s.e,s.H) (log.take j)).1.get t:=by
          intro t ht
          simp only [stS]
          rw [app_get_filter (q:=(s.e,s.H)) rfl,app_get_filter (l:=log.take j) (q:=(s.e,s.H)) rfl]
          rw [sel_take (p:=dIs t) S log 0 j]
          intro i y hy hp
          simp only [Nat.zero_add]
          simp only [dIs,beq_iff_eq] at hp
          constructor
          · intro hi
            rcases Nat.lt_trichotomy i j with h1 | h1 | h1
            · exact h1
            · subst h1; rw [hSj] at hi; cases hi
            · have:=haft i y h1 hy (conf_rs_d hp ht)
              rw [hi] at this; cases this
          · intro hij
            exact hbef i y hij hy (conf_d_rs hp ht)
        have hreg:∀ k ∈ x.rd,look (stS S).H k=look (appL (s.e,s.H) (log.take j)).2 k:=by
          intro k hk
          simp only [stS]
          rw [app_look_filter (q:=(s.e,s.H)) rfl,app_look_filter (l:=log.take j) (q:=(s.e,s.H)) rfl]
          rw [sel_take (p:=wIs k) S log 0 j]
          intro i y hy hp
          simp only [Nat.zero_add]
          have hp:=memN_iff.1 hp
          constructor
          · intro hi
            rcases Nat.lt_trichotomy i j with h1 | h1 | h1
            · exact h1
            · subst h1; rw [hSj] at hi; cases hi
            · have:=haft i y h1 hy (conf_rd_wr hp hk)
              rw [hi] at this; cases this
          · intro hij
            exact hbef i y hij hy (conf_wr_rd hp hk)
        -- the state behind j
        have hnextE:∀ t,(stS (insS S j)).e.get t=if x.d=some t then x.sv else (stS S).e.get t:=by
          intro t
          simp only [stS]
          rw [app_get_filter (q:=(s.e,s.H)) rfl]
          have hsi:=sel_ins (p:=dIs t) S log 0 j x hx (by simpa using hSj) (fun i y hy hij hpx hpy=>by
            simp only [Nat.zero_add]
            simp only [dIs,beq_iff_eq] at hpx hpy
            exact haft i y hij hy (conf_d_d hpx hpy))
          rw [Nat.zero_add] at hsi
          rw [hsi,← app_get_filter (p:=(s.e,s.H)) (q:=(s.e,s.H)) rfl]
          have happ:∀ (l:List LogE) (p:Env × Heap),appL p (l ++ [x])=appE (appL p l) x:=by
            intro l; induction l with
            | nil=>intro p; rfl
            | cons z l ihl=>intro p; simp only [List.cons_append,appL]; exact ihl _
          rw [happ]
          simp only [appE]
          cases hd:x.d with
          | none=>simp [putO]
          | some d =>
            simp only [putO]
            rw [get_put]
            by_cases htd:t=d
            · simp [htd]
            · rw [if_neg htd,if_neg (by simp; exact fun h=>htd h.symm)]
        have hnextH:∀ k,look (stS (insS S j)).H k=look (x.wr ++ (stS S).H) k:=by
          intro k
          simp only [stS]
          rw [app_look_filter (q:=(s.e,s.H)) rfl]
          have hsi:=sel_ins (p:=wIs k) S log 0 j x hx (by simpa using hSj) (fun i y hy hij hpx hpy=>by
            simp only [Nat.zero_add]
            exact haft i y hij hy (conf_wr_wr (memN_iff.1 hpx) (memN_iff.1 hpy)))
          rw [Nat.zero_add] at hsi
          rw [hsi,← app_look_filter (p:=(s.e,s.H)) (q:=(s.e,s.H)) rfl]
          have happ:∀ (l:List LogE) (p:Env × Heap),appL p (l ++ [x])=appE (appL p l) x:=by
            intro l; induction l with
            | nil=>intro p; rfl
            | cons z l ihl=>intro p; simp only [List.cons_append,appL]; exact ihl _
          rw [happ]
          rfl
        have hcnt':(listed.setIfInBounds j true).toList.count false=fuel:=by
          have hj':j < listed.toList.length:=by simpa using hjl
          have hval:listed.toList[j]=false:=by
            rw [hS] at hSj
            simp [Array.getD,hjl] at hSj
            simpa using hSj
          rw [Array.toList_setIfInBounds,List.count_set hj']
          have hcnt2:Array.count false listed=fuel+1:=by simpa using hcnt
          simp [hval,hcnt2]
        have hgo:∀ ρ' a' w',Sat cx ρ' (stS (insS S j)) a' w' → wpAnyIn (fen cx.rd) 0 cx.P .any ops QQ fuel (listed.setIfInBounds j true) a' w':=fun ρ' a' w' hsat' =>
          ih _ ρ' a' w' (by simpa using hsz) hcnt' (by rw [hS']; exact hcl') (by rw [hS']; exact hsat')
        have hdst:=dst_lt hent.dst
        have hguard:∀ j' want d t,o.guard=some (j',want) → dstOf ops j'=some d → d ∈ x.rs → isBool ((appL (s.e,s.H) (log.take j)).1.get d) t → Region.wanted o (yielded ops a.tmps)=(t == want):=by
          intro j' want d t hg hd hdr hb
          have hv:a.tmps.getD d undef=.bool t:=by
            have:=hsat.env d
            rw [hslot d hdr] at this
            exact (isBool_rel hb).1 this
          simp only [Region.wanted,hg,yielded_of hd hv]
          cases t <;> cases want <;> rfl
        unfold wpOpIn
        simp only [ho]
        rcases hent.act with ⟨⟨gs1,f,hgs1,hloc,f1,f2,f3,f4,hrds⟩,hg⟩ | ⟨⟨f1,f2,f3,f4⟩,j',want,d,hg,hd,hdr,hb⟩
        · have hw:Region.wanted o (yielded ops a.tmps)=true:=by
            rcases hg with hg | ⟨j',want,d,hg,hd,hdr,hb⟩
            · simp [Region.wanted,hg]
            · rw [hguard j' want d want hg hd hdr hb]; cases want <;> rfl
          rw [if_pos hw]
          -- known booleans laid over
          have hsat1:Sat cx ρ { stS S with e:=ovl (gs1.filter fun p=>memN p.1 x.rs) (stS S).e } a w:=by
            refine hsat.congr (fun i=>?_) (fun _=>rfl) rfl ovl_marks
            simp only [ovl_get]
            cases hl:lookB (gs1.filter fun p=>memN p.1 x.rs) i with
            | none=>exact .inl rfl
            | some t =>
              have hm:=List.mem_filter.1 (lookB_mem hl)
              refine .inr ⟨t, ?_, .inl rfl⟩
              rw [hslot i (memN_iff.1 hm.2)]
              exact hgs1 i t hm.1
          have hlk:∀ i,i ∈ x.rs → lookB (gs1.filter fun p=>memN p.1 x.rs) i=lookB gs1 i:=by
            intro i hi
            clear hgs1 hloc hsat1
            induction gs1 with
            | nil=>rfl
            | cons p r ihg =>
              obtain ⟨d,t⟩:=p
              by_cases hid:i=d
              · subst hid
                rw [List.filter_cons_of_pos (by simpa using memN_iff.2 hi)]
                simp [lookB]
              · have hbq:Nat.beq i d=false:=by cases hq:Nat.beq i d with
                  | false=>rfl
                  | true=>exact absurd (Nat.eq_of_beq_eq_true hq) hid
                simp only [List.filter_cons]
                split
                · simp only [lookB,hbq,cond_false]; exact ihg
                · simp only [lookB,hbq,cond_false]; exact ihg
          refine hloc ρ _ a w hsat1 ?_ ?_ ?_ hdst _ _ ?_
          · intro t ht
            have htr:=hrds t ht
            simp only [ovl_get,hlk t htr]
            rw [hslot t htr]
          · intro k hk
            rw [f2] at hk
            exact hreg k hk
          · intro k hk
            rw [f4] at hk
            have hxm:x ∈ log:=List.mem_of_getElem? hx
            have hkge:=hent.news k hk
            -- nothing that was done speaks of a name of j's own
            have hno:∀ y,y ∈ selF S 0 log → k ∉ y.nms:=by
              intro y hy hky
              obtain ⟨i,hi,hsi⟩:=sel_mem hy
              simp only [Nat.zero_add] at hsi
              rcases Nat.lt_trichotomy i j with h1 | h1 | h1
              · exact (pair i j y x h1 hi hx (conf_news' hk hky)).2 k hk hky
              · subst h1; rw [hSj] at hsi; cases hsi
              · have:=haft i y h1 hi (conf_news hk hky)
                rw [hsi] at this; cases this
            have hk0:s.nx≤k:=(hnews x hxm k hk).1
            refine⟨⟨fun i=>?_,fun hm=>by
              simp only [ovl_marks,stS,appL_marks] at hm
              have:=hs.bnd.mks k hm
              omega,fun j' own q hl=>?_⟩,(hnews x hxm k hk).2,hkge⟩
            · simp only [ovl_get]
              cases lookB (gs1.filter fun p=>memN p.1 x.rs) i with
              | some t=>simp [SV.uses,SC.uses,SC.nms,anyMem]
              | none =>
                cases hu:((stS S).e.get i).uses [k] with
                | false=>rfl
                | true =>
                  simp only [stS] at hu
                  rcases app_get_src (l:=selF S 0 log) (p:=(s.e,s.H)) (t:=i) with h1 | ⟨y,hy,h1⟩
                  · rw [h1] at hu
                    have:=hs.bnd.env i k hu
                    omega
                  · rw [h1] at hu
                    exact absurd (nms_sv hu) (hno y hy)
            · simp only [stS] at hl
              rcases app_look_src hl with h1 | ⟨y,hy,h1⟩
              · have:=hs.bnd.heap j' own q h1
                refine⟨by omega, ?_⟩
                cases hu:q.uses [k] with
                | false=>rfl
                | true=>have:=this.2 k hu; omega
              · have h2:=hno y hy
                refine⟨fun he=>h2 (nms_wr h1 (.inl he)), ?_⟩
                cases hu:q.uses [k] with
                | false=>rfl
                | true=>exact absurd (nms_wr h1 (.inr hu)) h2
          · intro ρ' a' w' hsat' _
            refine hgo ρ' a' w' (hsat'.congr (fun i=>?_) (fun k=>?_) rfl (by simp only [stS,appL_marks,putO_marks,ovl_marks]))
            · rw [hnextE i,hent.d,f1]
              cases hd:o.dst with
              | none =>
                simp only [Sx.putO,ovl_get,hd]
                rw [if_neg (by simp)]
                cases hl:lookB (gs1.filter fun p=>memN p.1 x.rs) i with
                | none=>exact .inl rfl
                | some t =>
                  have hm:=List.mem_filter.1 (lookB_mem hl)
                  refine .inr ⟨t, .inl rfl, ?_⟩
                  rw [hslot i (memN_iff.1 hm.2)]
                  exact hgs1 i t hm.1
              | some d =>
                simp only [Sx.putO,hd]
                rw [get_put]
                by_cases hid:i=d
                · rw [if_pos hid,if_pos (by rw [hid])]; exact .inl rfl
                · rw [if_neg hid,if_neg (by simp; exact fun h=>hid h.symm)]
                  simp only [ovl_get]
                  cases hl:lookB (gs1.filter fun p=>memN p.1 x.rs) i with
                  | none=>exact .inl rfl
                  | some t =>
                    have hm:=List.mem_filter.1 (lookB_mem hl)
                    refine .inr ⟨t, .inl rfl, ?_⟩
                    rw [hslot i (memN_iff.1 hm.2)]
                    exact hgs1 i t hm.1
            · rw [hnextH k,f3]
        · have hw:Region.wanted o (yielded ops a.tmps)=false:=by
            rcases hb with hb | hb
            · rw [hguard j' want d (!want) hg hd hdr hb]; cases want <;> rfl
            · have hv:a.tmps.getD d undef=.tuple #[]:=by
                have:=hsat.env d
                rw [hslot d hdr,hb] at this
                exact undef_of this
              simp only [Region.wanted,hg,yielded_undef hd hv]; rfl
          rw [if_neg (by simp [hw])]
          refine⟨fun _ _=>trivial,hgo ρ _ w ((hsat.putO (sv:=.tup []) (v:=undef) hdst undef_rel undef_below).congr (fun i=>?_) (fun k=>?_) rfl (by simp only [stS,appL_marks,putO_marks]))⟩
          · rw [hnextE i,hent.d,f1]
            cases hd:o.dst with
            | none=>simp only [Sx.putO,hd]; rw [if_neg (by simp)]; exact .inl rfl
            | some d =>
              simp only [Sx.putO,hd]
              rw [get_put]
              by_cases hid:i=d
              · rw [if_pos hid,if_pos (by rw [hid])]; exact .inl rfl
              · rw [if_neg hid,if_neg (by simp; exact fun h=>hid h.symm)]; exact .inl rfl
          · rw [hnextH k,f3]; rfl
  have hmixed:=hB.mixed
  refine wpIn_region_any hmixed ?_
  refine key ops.size _ ρ a _ (by simp) (by simp [List.count_replicate]) ?_ ?_
  · intro i o ho hi
    exfalso
    have h0:(Array.replicate ops.size false).getD i false=false:=by
      simp only [Array.getD_eq_getD_getElem?,Array.getElem?_replicate]; split <;> rfl
    have hi:(Array.replicate ops.size false).getD i false=true:=hi
    rw [h0] at hi; cases hi
  · have hsel:selF (fun i=>(Array.replicate ops.size false).getD i false) 0 log=[]:=by
      have:∀ (l:List LogE) k,selF (fun i=>(Array.replicate ops.size false).getD i false) k l=[]:=by
        intro l; induction l with
        | nil=>intro k; rfl
        | cons x l ihl =>
          intro k
          simp only [selF]
          have h0:(Array.replicate ops.size false).getD k false=false:=by
            simp only [Array.getD_eq_getD_getElem?,Array.getElem?_replicate]; split <;> rfl
          rw [if_neg (by rw [h0]; simp),ihl]
      exact this log 0
    simp only [stS,hsel,appL]
    exact (hs.bump hle).eqHeap rfl

end Sx
end Go

