/-
  A part of the proof that a law answers true: lemmas of a symbolic walk, plain functions, or contracts of the functions walked (Sx29, Sx71, TA). Conditions: none.
-/
import Derived.Test.YtfcdjkeamldkaaaGreatPart09
import Derived.Deep.Slices
import Derived.ChangeArms
import Derived.SizedLaws
import Derived.Test.YtfcdjkeamldkaaaGreatPart13
import Derived.Test.YtfcdjkeamldkaaaGreatPart27
import Derived.Test.YtfcdjkeamldkaaaGreatPart28
import Derived.Test.YtfcdjkeamldkaaaGreatPart29
import Derived.Test.YtfcdjkeamldkaaaGreatRows
import Derived.Test.YtfcdjkeamldkaaaGreatChecked
import Derived.WideKeyArgs
import Derived.Carry
import Derived.Handed
import Derived.RowKit
import Derived.JoinedOf
import Derived.ChangeSame
set_option maxRecDepth 100000
set_option linter.unusedVariables false
set_option linter.unusedSimpArgs false
namespace Go
namespace Sx
open Go.Deep Go.ChangeShapes Go.WideShapes

end Sx
end Go

namespace Go
namespace Sx
open Go.Deep Go.ChangeShapes Go.WideShapes

def InR (z:Int):Prop:=-9223372036854775808≤z∧z≤9223372036854775807

theorem inR_of {z:Int} (h:(Lit.int .i64 z).wf=true):InR z:=by
  simp [Lit.wf] at h
  have h1:IntKind.i64.min=-9223372036854775808:=rfl
  have h2:IntKind.i64.max=9223372036854775807:=rfl
  unfold InR
  omega

structure AllB (P:Program) (t n:Nat):Prop where
  cells:P.cellsOf t=n
  op:∀ {H:Type} {enc:TypeId × Value → H} {w:World} {held:Bool} {fuel:Nat} {cs:List Value} {x:DataW H × List MemPlace},DataW.trod enc P w 0 (fun _=>true) held fuel t cs=some x →
    cs.length=n∧∃ V:Nat → Int,∀ j,j < n → cs[j]? = some (.int .i64 (V j))∧InR (V j)

theorem allB_int {P:Program} {t:Nat} (h:P.underlying t=some (.int .i64)) (hc:P.cellsOf t=1):AllB P t 1 where
  cells:=hc
  op:=by
    intro H enc w held fuel cs x hx
    obtain ⟨n,rfl,_,hw⟩:=DataW.trod_int h hx
    exact⟨rfl,fun _=>n,fun j hj=>by
      obtain rfl:j=0:=by omega
      exact⟨rfl,inR_of hw⟩⟩

def AllFsB (P:Program):List Field → Nat → Nat → Prop
  | [],j,n=>j=n
  | f :: r,j,n=>∃ m,f.offset=j∧AllB P f.type m∧AllFsB P r (j+m) n

theorem allFsB_get {P:Program} {H:Type} {enc:TypeId × Value → H} {w:World} {held:Bool} {fuel n:Nat} {cs:List Value} (hl:cs.length=n):∀ {fs:List Field} {j:Nat},AllFsB P fs j n →
    (∀ f ∈ fs,∃ x,DataW.trod enc P w 0 (fun _=>true) held fuel f.type ((cs.drop f.offset).take (P.cellsOf f.type))=some x) →
    ∃ V:Nat → Int,∀ i,j≤i → i < n → cs[i]? = some (.int .i64 (V i))∧InR (V i)
  | [],j,h,_=>⟨fun _=>0,fun i h1 h2=>by have h:j=n:=h; omega⟩
  | f :: r,j,⟨m,ho,hA,hr⟩,hx=>by
    obtain ⟨V2,hV2⟩:=allFsB_get hl hr fun g hg=>hx g (List.mem_cons_of_mem _ hg)
    obtain ⟨x,hx⟩:=hx f (List.mem_cons_self ..)
    rw [ho,hA.cells] at hx
    obtain ⟨_,V1,hV1⟩:=hA.op hx
    refine⟨fun i=>if i < j+m then V1 (i - j) else V2 i,fun i h1 h2=>?_⟩
    by_cases hi:i < j+m
    · dsimp only
      rw [if_pos hi]
      obtain ⟨this,hb⟩:=hV1 (i - j) (by omega)
      rw [List.getElem?_take,if_pos (by omega),List.getElem?_drop] at this
      refine⟨?_,hb⟩
      rw [← this]; congr 1; omega
    · dsimp only
      rw [if_neg hi]
      exact hV2 i (by omega) h2

theorem allB_struct {P:Program} {t n:Nat} {fs:Array Field} (h:P.underlying t=some (.struct fs)) (hc:P.cellsOf t=n) (hF:AllFsB P fs.toList 0 n):AllB P t n where
  cells:=hc
  op:=by
    intro H enc w held fuel cs x hx
    obtain ⟨xs,k,_,_,hl,hxl,hff⟩:=DataW.trod_struct h hx
    rw [hc] at hl
    obtain ⟨V,hV⟩:=allFsB_get hl hF fun f hf=>by
      obtain ⟨i,hi⟩:=List.mem_iff_getElem?.1 hf
      have:=hff i f (by simpa using hi)
      have hlt:i < xs.length:=by rw [hxl]; have:=(List.getElem?_eq_some_iff.1 hi).1; simpa using this
      rw [List.getElem?_eq_getElem hlt] at this
      exact⟨_,this⟩
    exact⟨hl,V,fun j hj=>hV j (Nat.zero_le _) hj⟩

theorem open_slB {H:Type} {enc:TypeId × Value → H} {P:Program} {w:World} {held:Bool} {t e n fuel:Nat} {cs:List Value} {x:DataW H × List MemPlace}
    (ht:P.underlying t=some (.slice e)) (he:AllB P e n) (hpos:0 < n) (hby:1≤P.bytesOf e) (hw:∀ y ∈ x.1.weights P t,y≤reachBytes)
    (h:DataW.trod enc P w 0 (fun _=>true) held fuel t cs=some x) :
    (∃ a,cs=[.slice a 0 0]) ∨ ∃ (b off len cap:Nat) (V:Nat → Nat → Int),cs=[.slice (some ⟨b,off,none⟩) len cap]∧len≤cap∧len≤reachBytes∧b < w.heap.size ∧
      ∀ i,i < len → ∀ j,j < n → w.cell? ⟨b,off+(i * n+j),none⟩=some (.int .i64 (V i j))∧InR (V i j):=by
  rcases open_slice ht h with ⟨h0,_⟩ | ⟨a,len,cap,m,n',D,Pl,rfl,hb,hl,hm,hmm,hxx,hx⟩
  · exact .inl ⟨none,h0⟩
  simp only [if_true] at hmm
  subst hmm
  rcases Nat.eq_zero_or_pos m with rfl | hcp
  · have:len=0:=by omega
    subst this
    exact .inl ⟨some a,rfl⟩
  right
  have hle:len≤reachBytes:=by
    subst hxx
    have:=hw ((len+(m - len)) * P.bytesOf e) (by simp [DataW.weights,ht])
    have h2:len * 1≤(len+(m - len)) * P.bytesOf e:=Nat.mul_le_mul (by omega) hby
    omega
  have each:∀ i,i < m → ∃ V:Nat → Int,∀ j,j < n → w.cell? (a.add (i * n+j))=some (.int .i64 (V j))∧InR (V j):=by
    intro i hi
    obtain ⟨cs',g1,g2⟩:=hx i hi
    rw [he.cells] at g1
    obtain ⟨_,hlen,hcell⟩:=World.cells?_some g1
    obtain ⟨_,V,hV⟩:=he.op g2
    refine⟨V,fun j hj=>?_⟩
    have hc:=hcell j hj
    rw [(hV j hj).1,add_add] at hc
    exact⟨hc,(hV j hj).2⟩
  obtain ⟨V,hV⟩:=choose_lt (α:=Nat → Int) (p:=fun i f=>∀ j,j < n → w.cell? (a.add (i * n+j))=some (.int .i64 (f j))∧InR (f j)) each
  have h00:=hV 0 hcp 0 hpos
  obtain ⟨b,off,spot⟩:=a
  have hs:spot=none:=by simpa [Addr.add] using World.cell?_spot h00.1
  subst hs
  refine⟨b,off,len,m,V,rfl,hl,hle, ?_,fun i hi j hj=>?_⟩
  · have h00':w.cell? ⟨b,off,none⟩=some (.int .i64 (V 0 0)):=by simpa [Addr.add] using h00.1
    rcases Nat.lt_or_ge b w.heap.size with hlt | hge
    · exact hlt
    · simp [World.cell?,Array.getElem?_eq_none hge] at h00'
  · have:=hV i (by omega) j hj
    rwa [add_plain] at this

theorem satO_cameB {ρ:Asg} {w:World} {k:Nat} {A:Arr} (hl:A.xs.length≤(ρ k).cap) (h:∀ i x,A.xs[i]? = some x → ∀ j c,(A.enc x)[j]? = some c → ∃ v,w.cell? (adr ρ k (i * A.sz+j))=some v∧c.rel ρ v) (hfx:(SO.arr A).fx=none:=by rfl) (hty:(SO.arr A).ty=none:=by rfl) :
    SatO ρ w k false (.arr A) where
  wf:=hl
  at_ i j c hc:=by
    rw [Sx.arr_cell?] at hc
    cases hx:A.xs[i]? with
    | none=>rw [hx] at hc; cases hc
    | some x=>rw [hx] at hc; exact h i x hx j c hc
  room h:=by cases h
  off0 h:=by cases h
  keys Φ h:=by cases h
  boxed Φ h:=by cases h
  fixd n h:=by rw [hfx] at h; cases h
  typd t h:=by rw [hty] at h; cases h

theorem key_slB {H:Type} {enc:TypeId × Value → H} {P:Program} {w:World} {held:Bool} {t e n fuel:Nat} {a:Value} {x:DataW H × List MemPlace} (A:Arr) (hA:A.sz=n) (hfx:A.fx=none) (hty:A.ty=none) (mk:(Nat → Int) → A.α)
    (hmk:∀ V j c,(A.enc (mk V))[j]? = some c → j < n∧c=.v (.int .i64 (V j)))
    (ht:P.underlying t=some (.slice e)) (he:AllB P e n) (hpos:0 < n) (hby:1≤P.bytesOf e) (hw:∀ y ∈ x.1.weights P t,y≤reachBytes)
    (h:DataW.trod enc P w 0 (fun _=>true) held fuel t [a]=some x) (k:Nat) :
    ∃ (xs:List A.α) (r:Rg),(xs.length≤reachBytes∧∀ y ∈ xs,∃ V,y=mk V∧∀ j,j < n → InR (V j))∧∀ ρ:Asg,ρ k=r → (SC.s k 0 xs.length n).rel ρ a∧SatO ρ w k false (.arr (A.setXs xs))∧(0 < r.cap → r.blk < w.heap.size):=by
  subst hA
  rcases open_slB ht he hpos hby hw h with ⟨a0,ha⟩ | ⟨bb,off,len,cap,V,ha,hle,hlr,hblk,hcell⟩
  · simp at ha; subst ha
    exact⟨[],⟨0,0,0,[]⟩,⟨Nat.zero_le _,fun y hy=>by cases hy⟩,fun ρ hρ=>⟨⟨a0,by rw [hρ]; rfl,by rw [hρ]; exact Nat.le_refl _,fun h=>by rw [hρ] at h; cases h⟩,satO_cameB (A:=A.setXs []) (Nat.zero_le _) (fun i x hx=>by cases hx) hfx hty,fun h=>by cases h⟩⟩
  · simp at ha; subst ha
    have hlen:((List.range len).map fun i=>mk (V i)).length=len:=by simp
    refine⟨(List.range len).map fun i=>mk (V i),⟨bb,off,cap,[]⟩,⟨by rw [hlen]; exact hlr,fun y hy=>?_⟩,fun ρ hρ=>⟨?_,satO_cameB (A:=A.setXs ((List.range len).map fun i=>mk (V i))) ?_ ?_ hfx hty,fun _=>hblk⟩⟩
    · obtain ⟨i,hi,rfl⟩:=List.mem_map.1 hy
      have hi:i < len:=by simpa using hi
      exact⟨V i,rfl,fun j hj=>(hcell i hi j hj).2⟩
    · rw [hlen]
      exact⟨_,by rw [hρ]; rfl,by rw [hρ]; show 0+len≤cap; omega,fun _=>by simp [adr,hρ]⟩
    · show ((List.range len).map fun i=>mk (V i)).length≤_
      rw [hlen,hρ]; exact hle
    · intro i x hx j c hc
      have hx:((List.range len).map fun i=>mk (V i))[i]? = some x:=hx
      rw [List.getElem?_map] at hx
      obtain ⟨i',hi',rfl⟩:=Option.map_eq_some_iff.1 hx
      obtain ⟨hil,hie⟩:=List.getElem?_eq_some_iff.1 hi'
      have hil:i < len:=by simpa using hil
      have hie:i'=i:=by simpa using hie.symm
      subst hie
      obtain ⟨hj,rfl⟩:=hmk (V i') j c hc
      show ∃ v,w.cell? (adr ρ k (i' * A.sz+j))=some v∧_
      rw [show adr ρ k (i' * A.sz+j)=⟨bb,off+(i' * A.sz+j),none⟩ from by simp [adr,hρ]]
      exact⟨_,(hcell i' hil j hj).1,rfl⟩

end Sx
end Go

namespace Go.Proofs
open Go.Sx Go.ChangeShapes Go.WideShapes Go.RowKit Go.Deep

theorem below_of {W W':World} (h:Frm W W' []):Below W.heap.size W { W' with tape:=W.tape } :=
 ⟨h.io.1,rfl,h.io.2,h.size,fun k hk=>h.same k hk (by simp)⟩

theorem A_own:ownKnob Tryz.prog.godebug=none:=by kernel_rfl
theorem A_laidOut:laidOutB Tryz.prog=true:=fact_laid
theorem A_undBool:Tryz.prog.underlying 4=some .bool:=by kernel_rfl

def Came (w:World) (v:Value) (sv:SV) (H:Heap) (ks:List (Nat × Rg)):Prop:=∀ ρ:Asg,(∀ p ∈ ks,ρ p.1=p.2) →
 sv.rel ρ v∧∀ e ∈ H,e.2.1=false∧SatO ρ w e.1 false e.2.2∧(0 < e.2.2.room (ρ e.1) → ∀ b ∈ e.2.2.fp (ρ e.1),b < w.heap.size)

def CameAll (w:World) (vs:List Value) (svs:List SV) (H:Heap) (ks:List (Nat × Rg)):Prop:=∀ ρ:Asg,(∀ p ∈ ks,ρ p.1=p.2) →
 relVs ρ svs vs∧∀ e ∈ H,e.2.1=false∧SatO ρ w e.1 false e.2.2∧(0 < e.2.2.room (ρ e.1) → ∀ b ∈ e.2.2.fp (ρ e.1),b < w.heap.size)

theorem cameAll_nil (w:World):CameAll w [] [] [] []:=fun _ _=>⟨trivial,fun e he=>by cases he⟩

theorem cameAll_cons {w:World} {v:Value} {vs:List Value} {sv:SV} {svs:List SV} {H H':Heap} {ks ks':List (Nat × Rg)} (h:Came w v sv H ks) (h':CameAll w vs svs H' ks'):CameAll w (v :: vs) (sv :: svs) (H ++ H') (ks ++ ks'):=by
 intro ρ hρ
 obtain ⟨h1,h2⟩:=h ρ fun p hp=>hρ p (List.mem_append.2 (.inl hp))
 obtain ⟨h3,h4⟩:=h' ρ fun p hp=>hρ p (List.mem_append.2 (.inr hp))
 refine⟨⟨h1,h3⟩,fun e he=>?_⟩
 rcases List.mem_append.1 he with he | he
 ·exact h2 e he
 ·exact h4 e he

def asgOf:List (Nat × Rg) → Asg
 | [],_=>⟨0,0,0,[]⟩
 | (k,r) :: t,j=>if j=k then r else asgOf t j

theorem asgOf_ok:∀ {ks:List (Nat × Rg)},(ks.map (·.1)).Nodup → ∀ p ∈ ks,asgOf ks p.1=p.2
 | [],_,p,hp=>by cases hp
 | (k,r) :: t,hn,p,hp=>by
  simp only [List.map_cons,List.nodup_cons] at hn
  rcases List.mem_cons.1 hp with rfl | hq
  ·simp [asgOf]
  ·have hne:p.1 ≠ k:=fun he=>hn.1 (he ▸ List.mem_map_of_mem hq)
   simp only [asgOf,if_neg hne]
   exact asgOf_ok hn.2 p hq

theorem look_mem:∀ {H:Heap} {k:Nat} {x:Bool × SO},Sx.look H k=some x → (k,x) ∈ H
 | [],_,_,h=>by cases h
 | (j,o) :: r,k,x,h=>by
  rw [look_cons] at h
  by_cases hk:k=j
  ·rw [if_pos hk] at h
   rw [← Option.some.inj h,hk]; exact List.mem_cons_self ..
  ·rw [if_neg hk] at h
   exact List.mem_cons_of_mem _ (look_mem h)

theorem came_sat {w:World} {vs:List Value} {svs:List SV} {H:Heap} {ks:List (Nat × Rg)} (h:CameAll w vs svs H ks) (hn:(ks.map (·.1)).Nodup) :
  ∃ ρ:Asg,relVs ρ svs vs∧SatH w (ownB ρ H) ρ H w:=by
 obtain ⟨h1,h2⟩:=h (asgOf ks) (asgOf_ok hn)
 refine⟨asgOf ks,h1,Frm.refl _ _, ?_, ?_, ?_, ?_⟩
 ·intro k own o hk
  obtain ⟨h3,h4,_⟩:=h2 _ (look_mem hk)
  have h3:own=false:=h3
  subst h3; exact h4
 ·intro k k' o own' o' _ hk
  have:=(h2 _ (look_mem hk)).1; cases this
 ·intro k o hk
  have:=(h2 _ (look_mem hk)).1; cases this
 ·intro k own o hk hp
  exact (h2 _ (look_mem hk)).2.2 hp

theorem came_int {base:Nat} {H:Type} {enc:TypeId × Value → H} {w:World} {v:Value} {d:DataW H} {p:List MemPlace} (hok:Value.okWide Tryz.prog w .any base 3 v)
  (h:DataW.Trod enc Tryz.prog w 0 (fun _=>true) true 3 v d p):∃ z:Int,InR z∧Came w v (iv .i64 z) [] []:=by
 have ht:Tryz.prog.underlying 3=some (.int .i64):=by kernel_rfl
 obtain ⟨n,rfl⟩:=okWide_int ht hok
 obtain ⟨fuel,hf⟩:=h
 obtain ⟨m,hm,_,hw⟩:=DataW.trod_int ht hf
 have:m=n:=by simpa [Value.cells] using hm.symm
 subst this
 exact⟨m,inR_of hw,fun ρ _=>⟨rfl,fun e he=>by cases he⟩⟩

theorem B_int:AllB Tryz.prog 3 1:=allB_int (by kernel_rfl) (by kernel_rfl)

def chkFs (L:List (Nat × Nat)):List Field → Nat → Nat → Bool
 | [],j,n=>Nat.beq j n
 | f :: r,j,n=>Nat.beq f.offset j && (match lookN L f.type with
  | some m=>chkFs L r (j+m) n
  | none=>false)

theorem chkFs_ok {P:Program} {L:List (Nat × Nat)} (hL:∀ t n,lookN L t=some n → AllB P t n):∀ {fs:List Field} {j n:Nat},chkFs L fs j n=true → AllFsB P fs j n
 | [],_,_,h=>Nat.eq_of_beq_eq_true h
 | f :: r,j,n,h=>by
  simp only [chkFs,Bool.and_eq_true] at h
  obtain ⟨h1,h2⟩:=h
  split at h2
  ·rename_i m hm
   exact⟨m,Nat.eq_of_beq_eq_true h1,hL _ _ hm,chkFs_ok hL h2⟩
  ·cases h2

theorem allN_nil {P:Program}:∀ t n,lookN [] t=some n → AllB P t n:=by intro t n h; simp [lookN] at h
theorem allN_cons {P:Program} {t m:Nat} {L:List (Nat × Nat)} (h:AllB P t m) (hL:∀ t n,lookN L t=some n → AllB P t n):∀ t' n,lookN ((t,m) :: L) t'=some n → AllB P t' n:=by
 intro t' n h'
 simp only [lookN] at h'
 cases hb:Nat.beq t' t with
 | true=>simp [hb] at h'; subst h'; rw [Nat.eq_of_beq_eq_true hb]; exact h
 | false=>simp [hb] at h'; exact hL _ _ h'

theorem L_int:∀ t n,lookN [(3,1)] t=some n → AllB Tryz.prog t n:=allN_cons B_int allN_nil
theorem B_bale:AllB Tryz.prog 74 2:=allB_struct (fs:=Tryz.prog.fieldsOf 74) (by kernel_rfl) (by kernel_rfl) (chkFs_ok L_int (by kernel_rfl))

theorem room_fp {A:Arr} {r:Rg} {w:World} (h:0 < r.cap → r.blk < w.heap.size):0 < (SO.arr A).room r → ∀ b ∈ (SO.arr A).fp r,b < w.heap.size:=by
 intro hp b hb
 have hb:b ∈ [r.blk]:=hb
 rw [List.mem_singleton.1 hb]
 refine h (Nat.pos_of_ne_zero fun h0=>?_)
 have hp:0 < r.cap * A.sz:=hp
 rw [h0,Nat.zero_mul] at hp; cases hp

theorem mk1 {j n:Nat} {V:Nat → Int} {c:SC} {l:List SC} (hl:l=(List.range n).map fun i=>SC.v (.int .i64 (V i))) (h:l[j]? = some c):j < n∧c=.v (.int .i64 (V j)):=by
 subst hl
 rw [List.getElem?_map] at h
 obtain ⟨i,hi,rfl⟩:=Option.map_eq_some_iff.1 h
 obtain ⟨h1,h2⟩:=List.getElem?_eq_some_iff.1 hi
 have h1:j < n:=by simpa using h1
 have h2:i=j:=by simpa using h2.symm
 exact⟨h1,by rw [h2]⟩

theorem came_nums {base:Nat} {H:Type} {enc:TypeId × Value → H} {w:World} {v:Value} {d:DataW H} {p:List MemPlace} (hok:Value.okWide Tryz.prog w .any base 29 v)
  (h:DataW.Trod enc Tryz.prog w 0 (fun _=>true) true 29 v d p) (hw:∀ y ∈ d.weights Tryz.prog 29,y≤reachBytes) (k0:Nat) :
  ∃ (xs:List Int) (q0:Rg),(xs.length≤140737488351232∧∀ x ∈ xs,InR x)∧Came w v (.c (.s k0 0 xs.length 1)) [(k0,false, .arr (aInt xs))] [(k0,q0)]:=by
 obtain ⟨a,l,c,rfl⟩:=okWide_slice (by kernel_rfl:Tryz.prog.underlying 29=some (.slice 3)) hok
 obtain ⟨fuel,hf⟩:=h
 obtain ⟨ms,q0,⟨l0,b0⟩,g0⟩:=key_slB (x:=(d,p)) (aInt []) rfl rfl rfl (fun V=>V 0) (fun V j c hc=>mk1 (n:=1) rfl hc) (by kernel_rfl:Tryz.prog.underlying 29=some (.slice 3)) B_int (by decide) (by decide +kernel) hw hf k0
 refine⟨ms,q0,⟨l0,fun x hx=>?_⟩,fun ρ hρ=>?_⟩
 ·obtain ⟨V,rfl,hV⟩:=b0 x hx
  exact hV 0 (by decide)
 have e0:=hρ (k0,q0) (by simp)
 obtain ⟨u0,v0,r0⟩:=g0 ρ e0
 refine⟨u0,fun y hy=>?_⟩
 simp only [List.mem_singleton] at hy
 subst hy
 exact⟨rfl,v0,by rw [e0]; exact room_fp r0⟩

theorem string_back (s:ByteArray):S s.data.toList=s:=by
 unfold S
 simp

theorem A_undSec:Tryz.prog.underlying 28=some (.struct (Tryz.prog.fieldsOf 28)):=by kernel_rfl
theorem A_fldSec:∃ f0 f1,Tryz.prog.fieldsOf 28=#[f0,f1]∧(f0.type=9∧f0.offset=0)∧f1.type=9∧f1.offset=1 :=
 ⟨(Tryz.prog.fieldsOf 28)[0]!,(Tryz.prog.fieldsOf 28)[1]!,by kernel_rfl,⟨by kernel_rfl,by kernel_rfl⟩,by kernel_rfl,by kernel_rfl⟩

theorem weights_part {H:Type} {P:Program} {t:Nat} {fs:Array Field} {parts:List (DataW H)} (h:P.underlying t=some (.struct fs)) (hw:∀ y ∈ (DataW.agg parts).weights P t,y≤reachBytes) {i:Nat} {f:Field} {d:DataW H} (hf:fs.toList[i]? = some f) (hd:parts[i]? = some d) :
  ∀ y ∈ d.weights P f.type,y≤reachBytes:=fun y hy=>hw y (by
 simp only [DataW.weights,h]
 exact DataW.weights_mem_each (j:=i) (by rw [List.getElem?_map,hf]; rfl) hd y hy)

theorem came_str {H:Type} {enc:TypeId × Value → H} {w:World} {held:Bool} {fuel:Nat} {a:Value} {x:DataW H × List MemPlace} (hw:∀ y ∈ x.1.weights Tryz.prog 9,y≤reachBytes)
  (h:DataW.trod enc Tryz.prog w 0 (fun _=>true) held fuel 9 [a]=some x):∃ l:List UInt8,l.length≤140737488351232∧a=.string (S l):=by
 obtain ⟨s,hs,hx,_⟩:=DataW.trod_string (by kernel_rfl:Tryz.prog.underlying 9=some .string) h
 refine⟨s.data.toList, ?_,by rw [string_back]; simpa using hs⟩
 subst hx
 exact hw s.data.toList.length (by simp [DataW.weights])

theorem came_sec {base:Nat} {H:Type} {enc:TypeId × Value → H} {w:World} {v:Value} {d:DataW H} {p:List MemPlace} (hok:Value.okWide Tryz.prog w .any base 28 v)
  (h:DataW.Trod enc Tryz.prog w 0 (fun _=>true) true 28 v d p) (hw:∀ y ∈ d.weights Tryz.prog 28,y≤reachBytes) :
  ∃ s:Sec,(s.seed.length≤140737488355328∧s.salt.length≤140737488355328)∧Came w v (secV s) [] []:=by
 obtain ⟨cs,rfl,hcs⟩:=okWide_struct A_undSec hok
 obtain ⟨fuel,hf⟩:=h
 have hc4:Tryz.prog.cellsOf 28=2:=by kernel_rfl
 rw [hc4] at hcs
 obtain ⟨l⟩:=cs
 match l,hcs with
 | [a,b],_ =>
  obtain ⟨xs,m,_,hd,_,hxl,hff⟩:=DataW.trod_struct A_undSec hf
  have hd:d=.agg (xs.map (·.1)):=congrArg Prod.fst hd
  subst hd
  have hwp:=fun {i:Nat} {f:Field} {d:DataW H}=>weights_part (i:=i) (f:=f) (d:=d) A_undSec hw
  obtain ⟨f0,f1,hfs,⟨t0,o0⟩,t1,o1⟩:=A_fldSec
  rw [hfs] at hff hxl hwp
  have hxl:xs.length=2:=hxl
  match xs,hxl with
  | [x0,x1],_ =>
  have h0:=hff 0 f0 rfl
  have h1:=hff 1 f1 rfl
  have w0:=hwp (i:=0) (f:=f0) (d:=x0.1) rfl rfl
  have w1:=hwp (i:=1) (f:=f1) (d:=x1.1) rfl rfl
  have c0:Tryz.prog.cellsOf 9=1:=by kernel_rfl
  rw [t0,o0,c0] at h0
  rw [t1,o1,c0] at h1
  rw [t0] at w0
  rw [t1] at w1
  obtain ⟨l0,g0,rfl⟩:=came_str w0 (show DataW.trod enc Tryz.prog w 0 (fun _=>true) true m 9 [a]=some x0 from h0)
  obtain ⟨l1,g1,rfl⟩:=came_str w1 (show DataW.trod enc Tryz.prog w 0 (fun _=>true) true m 9 [b]=some x1 from h1)
  exact⟨⟨l0,l1⟩,⟨by show l0.length≤_; omega,by show l1.length≤_; omega⟩,fun ρ _=>⟨⟨#[_,_],rfl,rfl,rfl,trivial⟩,fun y hy=>by cases hy⟩⟩

theorem A_undPlan:Tryz.prog.underlying 26=some (.struct (Tryz.prog.fieldsOf 26)):=by kernel_rfl
theorem A_fldPlan:∃ f0 f1,Tryz.prog.fieldsOf 26=#[f0,f1]∧(f0.type=24∧f0.offset=0)∧f1.type=3∧f1.offset=3 :=
 ⟨(Tryz.prog.fieldsOf 26)[0]!,(Tryz.prog.fieldsOf 26)[1]!,by kernel_rfl,⟨by kernel_rfl,by kernel_rfl⟩,by kernel_rfl,by kernel_rfl⟩
theorem A_undLot:Tryz.prog.underlying 24=some (.struct (Tryz.prog.fieldsOf 24)):=by kernel_rfl
theorem A_fldLot:∃ f0 f1 f2,Tryz.prog.fieldsOf 24=#[f0,f1,f2]∧(f0.type=3∧f0.offset=0)∧(f1.type=9∧f1.offset=1)∧f2.type=22∧f2.offset=2 :=
 ⟨(Tryz.prog.fieldsOf 24)[0]!,(Tryz.prog.fieldsOf 24)[1]!,(Tryz.prog.fieldsOf 24)[2]!,by kernel_rfl,⟨by kernel_rfl,by kernel_rfl⟩,⟨by kernel_rfl,by kernel_rfl⟩,by kernel_rfl,by kernel_rfl⟩

theorem came_plan {base:Nat} {H:Type} {enc:TypeId × Value → H} {w:World} {v:Value} {d:DataW H} {p:List MemPlace} (hok:Value.okWide Tryz.prog w .any base 26 v)
  (h:DataW.Trod enc Tryz.prog w 0 (fun _=>true) true 26 v d p) (hw:∀ y ∈ d.weights Tryz.prog 26,y≤reachBytes) (k0:Nat) :
  ∃ (q:Pl) (q0:Rg),(q.fib.length≤140737488355328∧q.bales.length≤140737488355328)∧Came w v (planS k0 q) [(k0,false, .arr (aBale q.bales))] [(k0,q0)]:=by
 obtain ⟨cs,rfl,hcs⟩:=okWide_struct A_undPlan hok
 obtain ⟨fuel,hf⟩:=h
 have hc4:Tryz.prog.cellsOf 26=4:=by kernel_rfl
 rw [hc4] at hcs
 obtain ⟨l⟩:=cs
 match l,hcs with
 | [a,b,c,e],_ =>
  obtain ⟨xs,m,_,hd,_,hxl,hff⟩:=DataW.trod_struct A_undPlan hf
  have hd:d=.agg (xs.map (·.1)):=congrArg Prod.fst hd
  subst hd
  have hwp:=fun {i:Nat} {f:Field} {d:DataW H}=>weights_part (i:=i) (f:=f) (d:=d) A_undPlan hw
  obtain ⟨f0,f1,hfs,⟨t0,o0⟩,t1,o1⟩:=A_fldPlan
  rw [hfs] at hff hxl hwp
  have hxl:xs.length=2:=hxl
  match xs,hxl with
  | [x0,x1],_ =>
  have h0:=hff 0 f0 rfl
  have h1:=hff 1 f1 rfl
  have w0:=hwp (i:=0) (f:=f0) (d:=x0.1) rfl rfl
  have c0:Tryz.prog.cellsOf 24=3:=by kernel_rfl
  have c1:Tryz.prog.cellsOf 3=1:=by kernel_rfl
  rw [t0,o0,c0] at h0
  rw [t1,o1,c1] at h1
  rw [t0] at w0
  have h0:DataW.trod enc Tryz.prog w 0 (fun _=>true) true m 24 [a,b,c]=some x0:=h0
  have h1:DataW.trod enc Tryz.prog w 0 (fun _=>true) true m 3 [e]=some x1:=h1
  obtain ⟨n1,hn1,_,b1⟩:=DataW.trod_int (by kernel_rfl:Tryz.prog.underlying 3=some (.int .i64)) h1
  have hn1:e=.int .i64 n1:=by simpa using hn1
  subst hn1
  obtain ⟨ys,m2,_,hd2,_,hyl,hgg⟩:=DataW.trod_struct A_undLot h0
  have hd2:x0.1=.agg (ys.map (·.1)):=congrArg Prod.fst hd2
  rw [hd2] at w0
  have hwp2:=fun {i:Nat} {f:Field} {d:DataW H}=>weights_part (i:=i) (f:=f) (d:=d) A_undLot w0
  obtain ⟨g0,g1,g2,hgs,⟨u0,s0⟩,⟨u1,s1⟩,u2,s2⟩:=A_fldLot
  rw [hgs] at hgg hyl hwp2
  have hyl:ys.length=3:=hyl
  obtain ⟨y0,y1,y2,rfl⟩:∃ y0 y1 y2,ys=[y0,y1,y2]:=by
   match ys,hyl with
   | [y0,y1,y2],_=>exact⟨y0,y1,y2,rfl⟩
  have k0':=hgg 0 g0 rfl
  have k1':=hgg 1 g1 rfl
  have k2':=hgg 2 g2 rfl
  have v1:=hwp2 (i:=1) (f:=g1) (d:=y1.1) rfl rfl
  have v2:=hwp2 (i:=2) (f:=g2) (d:=y2.1) rfl rfl
  have e1:Tryz.prog.cellsOf 9=1:=by kernel_rfl
  have e2:Tryz.prog.cellsOf 22=1:=by kernel_rfl
  rw [u0,s0,c1] at k0'
  rw [u1,s1,e1] at k1'
  rw [u2,s2,e2] at k2'
  rw [u1] at v1
  rw [u2] at v2
  have k0':DataW.trod enc Tryz.prog w 0 (fun _=>true) true m2 3 [a]=some y0:=k0'
  have k1':DataW.trod enc Tryz.prog w 0 (fun _=>true) true m2 9 [b]=some y1:=k1'
  have k2':DataW.trod enc Tryz.prog w 0 (fun _=>true) true m2 22 [c]=some y2:=k2'
  obtain ⟨n0,hn0,_,b0⟩:=DataW.trod_int (by kernel_rfl:Tryz.prog.underlying 3=some (.int .i64)) k0'
  have hn0:a=.int .i64 n0:=by simpa using hn0
  subst hn0
  obtain ⟨fb,l1,rfl⟩:=came_str v1 k1'
  obtain ⟨bs,q0,⟨l2,_⟩,g0⟩:=key_slB (aBale []) rfl rfl rfl (fun V=>(V 0,V 1)) (fun V j c hc=>mk1 (n:=2) rfl hc) (by kernel_rfl:Tryz.prog.underlying 22=some (.slice 74)) B_bale (by decide) (by decide +kernel) v2 k2' k0
  refine⟨⟨n0,fb,bs,n1⟩,q0,⟨by show fb.length≤_; omega,by show bs.length≤_; exact Nat.le_trans l2 (by decide)⟩,fun ρ hρ=>?_⟩
  have e0:=hρ (k0,q0) (by simp)
  obtain ⟨u0,v0,r0⟩:=g0 ρ e0
  refine⟨⟨#[_,_,_,_],rfl,rfl,rfl,u0,rfl,trivial⟩,fun y hy=>?_⟩
  simp only [List.mem_singleton] at hy
  subst hy
  exact⟨rfl,v0,by rw [e0]; exact room_fp r0⟩

abbrev A_reads:List Nat:=[26,28,3,29,52,53]

theorem A_read:∀ t ∈ A_reads,Tryz.prog.readableRec t=true∧t < Tryz.prog.types.size:=by
 have h:(A_reads.all fun t=>Tryz.prog.readableRec t && decide (t < Tryz.prog.types.size))=true:=by kernel_rfl
 intro t ht
 have:=List.all_eq_true.1 h t ht
 simpa using this

theorem trodAll_keep {H:Type} {enc:TypeId × Value → H} {W W':World} (hfrm:Frm W W' []):∀ {ts:List TypeId} {vs:List Value} {ds:List (DataW H)} {p:List MemPlace},(∀ t ∈ ts,Tryz.prog.readableRec t=true∧t < Tryz.prog.types.size) →
  DataW.TrodAll enc Tryz.prog W 0 (fun _=>true) true ts vs ds p → (∀ x ∈ p,x.block < W.heap.size) → DataW.TrodAll enc Tryz.prog { W' with tape:=W.tape } 0 (fun b=>decide (b < W.heap.size)) true ts vs ds p
 | [],vs,ds,p,_,h,_=>by
  obtain ⟨rfl,rfl,rfl⟩:=trodAll_nil h
  exact trodAll_mk0
 | t :: ts,vs,ds,p,hr,h,hlt=>by
  obtain ⟨v,vs',d,ds',p1,p2,rfl,rfl,rfl,hd,hrest⟩:=trodAll_cons h
  have ht:=hr t (List.mem_cons_self ..)
  refine⟨p1,p2, ?_, ?_,rfl⟩
  ·exact Below.trod A_laidOut ht.1 ht.2 hd (below_of hfrm) fun x hx=>hlt x (List.mem_append.2 (.inl hx))
  ·exact trodAll_keep hfrm (fun t ht=>hr t (List.mem_cons_of_mem _ ht)) hrest fun x hx=>hlt x (List.mem_append.2 (.inr hx))

end Go.Proofs

