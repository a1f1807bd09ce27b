/-
  A part of the proof that a law answers true: lemmas of a symbolic walk, plain functions, or contracts of the functions walked (EQ, ER, ES, ET, EU, EV). Conditions: none.
-/
import Derived.Test.YtfcdjkeamldkaaaGreatPart22
set_option maxRecDepth 100000
set_option linter.unusedVariables false
set_option linter.unusedSimpArgs false
namespace Go.Proofs
open Go.Sx
theorem Xn{H:Je}{k:Nat}(h:(Sx.look H k).isSome=true):∃own o,(k,own,o)∈H:=by
 obtain⟨⟨own,o⟩,hx⟩:=Option.isSome_iff_exists.1 h;exact⟨own,o,Qd hx⟩
def σA(k:Nat):Nat:=bif Nat.beq k 6 then 0 else k-4
theorem bE2(D:Sd):ActSt D D 10 (fun _=>[(6,false, .cells [.junk, .junk, .m 7, .v (.int .i64 D.num), .m 8, .m 9]),(7,false,Jw true 2 D.did),(8,false,Jw false 2 D.grants),(9,false,Jw false 2 D.goes)]) (fun _=>[]) σA (fun _=>none) where
 np6:=by omega
 σ6:=rfl
 τ0:=.inl rfl
 uq ws k own o h:=by
  simp only[List.mem_cons,Prod.mk.injEq,List.not_mem_nil,or_false]at h;rcases h with ⟨rfl,rfl,rfl⟩|⟨rfl,rfl,rfl⟩|⟨rfl,rfl,rfl⟩|⟨rfl,rfl,rfl⟩ <;> rfl
 pre ρ0 ρf w ws hst hρ k own o hk:=by
  have hm:=Qd hk;simp only[Yz,List.mem_cons,Prod.mk.injEq,List.not_mem_nil,or_false]at hm;rcases hm with ⟨rfl,rfl,rfl⟩|⟨rfl,rfl,rfl⟩|⟨rfl,rfl,rfl⟩|⟨rfl,rfl,rfl⟩
  ·skip;exact⟨by omega,by omega,Xa (hst.reg 0 _ rfl) hρ (by omega) (by omega) cl,⟨_,rfl,fun _ h=>h⟩,fun _=>rfl,fun h=>by cases h⟩
  ·skip;exact⟨by omega,by omega,Xa (hst.reg 3 _ rfl) hρ (by omega) (by omega) cl,⟨_,rfl,fun _ h=>h⟩,fun _=>rfl,fun h=>by cases h⟩
  ·skip;exact⟨by omega,by omega,Xa (hst.reg 4 _ rfl) hρ (by omega) (by omega) cl,⟨_,rfl,fun _ h=>h⟩,fun _=>rfl,fun h=>by cases h⟩
  ·skip;exact⟨by omega,by omega,Xa (hst.reg 5 _ rfl) hρ (by omega) (by omega) cl,⟨_,rfl,fun _ h=>h⟩,fun _=>rfl,fun h=>by cases h⟩
 inj ws k k' hk hk' hσ:=by
  obtain⟨_,_,h1⟩:=Xn hk;obtain⟨_,_,h2⟩:=Xn hk';simp only[List.mem_cons,Prod.mk.injEq,List.not_mem_nil,or_false]at h1 h2;rcases h1 with ⟨rfl,_⟩|⟨rfl,_⟩|⟨rfl,_⟩|⟨rfl,_⟩ <;> rcases h2 with ⟨rfl,_⟩|⟨rfl,_⟩|⟨rfl,_⟩|⟨rfl,_⟩ <;> first|rfl|exact absurd hσ (by decide)
 τi k k' p h:=by cases h
 hi ws p x h:=by cases h
 post ρ0 ρ' ρ1 w w' ws hst _ _ hn _:=⟨ws,hst.ws.same rfl fun j=>hn _ rfl,fun k o' h=>.inl ⟨rfl,h,fun n _=>hn n rfl⟩⟩
theorem cx5(D:Sd):ActSt D D 8 (fun _=>[(6,false, .cells [.junk, .junk, .m 7, .v (.int .i64 D.num), .junk, .junk]),(7,false,Jw true 2 D.did)]) (fun _=>[]) σA (fun _=>none) where
 np6:=by omega
 σ6:=rfl
 τ0:=.inl rfl
 uq ws k own o h:=by
  simp only[List.mem_cons,Prod.mk.injEq,List.not_mem_nil,or_false]at h;rcases h with ⟨rfl,rfl,rfl⟩|⟨rfl,rfl,rfl⟩ <;> rfl
 pre ρ0 ρf w ws hst hρ k own o hk:=by
  have hm:=Qd hk;simp only[Yz,List.mem_cons,Prod.mk.injEq,List.not_mem_nil,or_false]at hm;rcases hm with ⟨rfl,rfl,rfl⟩|⟨rfl,rfl,rfl⟩
  ·skip;exact⟨by omega,by omega,Xa (hst.reg 0 _ rfl) hρ (by omega) (by omega) cl,⟨_,rfl,fun _ h=>h⟩,fun _=>rfl,fun h=>by cases h⟩
  ·skip;exact⟨by omega,by omega,Xa (hst.reg 3 _ rfl) hρ (by omega) (by omega) cl,⟨_,rfl,fun _ h=>h⟩,fun _=>rfl,fun h=>by cases h⟩
 inj ws k k' hk hk' hσ:=by
  obtain⟨_,_,h1⟩:=Xn hk;obtain⟨_,_,h2⟩:=Xn hk';simp only[List.mem_cons,Prod.mk.injEq,List.not_mem_nil,or_false]at h1 h2;rcases h1 with ⟨rfl,_⟩|⟨rfl,_⟩ <;> rcases h2 with ⟨rfl,_⟩|⟨rfl,_⟩ <;> first|rfl|exact absurd hσ (by decide)
 τi k k' p h:=by cases h
 hi ws p x h:=by cases h
 post ρ0 ρ' ρ1 w w' ws hst _ _ hn _:=⟨ws,hst.ws.same rfl fun j=>hn _ rfl,fun k o' h=>.inl ⟨rfl,h,fun n _=>hn n rfl⟩⟩
def σO(k:Nat):Nat:=bif Nat.beq k 6 then 0 else 2
theorem bO0(D:Sd):ActSt D D 8 (fun _=>[(6,false, .cells [.junk, .s 7 0 D.ovs.length 1, .junk, .v (.int .i64 D.num), .junk, .junk]),(7,false, .cells [])]) (fun _=>[]) σO (fun _=>none) where
 np6:=by omega
 σ6:=rfl
 τ0:=.inl rfl
 uq ws k own o h:=by
  simp only[List.mem_cons,Prod.mk.injEq,List.not_mem_nil,or_false]at h;rcases h with ⟨rfl,rfl,rfl⟩|⟨rfl,rfl,rfl⟩ <;> rfl
 pre ρ0 ρf w ws hst hρ k own o hk:=by
  have hm:=Qd hk;simp only[Yz,List.mem_cons,Prod.mk.injEq,List.not_mem_nil,or_false]at hm;rcases hm with ⟨rfl,rfl,rfl⟩|⟨rfl,rfl,rfl⟩
  ·skip;exact⟨by omega,by omega,Xa (hst.reg 0 _ rfl) hρ (by omega) (by omega) cl,⟨_,rfl,fun _ h=>h⟩,fun _=>rfl,fun h=>by cases h⟩
  ·refine⟨by omega,by omega, ?_,⟨_,rfl,fun _ h=>by cases h⟩,fun _=>rfl,fun h=>by cases h⟩
   exact {
    wf:=trivial,at_:=fun i j c hc=>by
     cases i <;> simp[SO.cell?]at hc
    room:=fun h=>(by cases h),off0:=fun h=>(by cases h),keys:=fun Φ hΦ=>(by cases hΦ),boxed:=fun b hb=>(by cases hb),fixd:=fun n hn=>(by cases hn),typd:=fun t ht=>(by cases ht) }
 inj ws k k' hk hk' hσ:=by
  obtain⟨_,_,h1⟩:=Xn hk;obtain⟨_,_,h2⟩:=Xn hk';simp only[List.mem_cons,Prod.mk.injEq,List.not_mem_nil,or_false]at h1 h2;rcases h1 with ⟨rfl,_⟩|⟨rfl,_⟩ <;> rcases h2 with ⟨rfl,_⟩|⟨rfl,_⟩ <;> first|rfl|exact absurd hσ (by decide)
 τi k k' p h:=by cases h
 hi ws p x h:=by cases h
 post ρ0 ρ' ρ1 w w' ws hst _ _ hn _:=⟨ws,hst.ws.same rfl fun j=>hn _ rfl,fun k o' h=>.inl ⟨rfl,h,fun n _=>hn n rfl⟩⟩
def τB(k:Nat):Option Nat:=bif Nat.beq k 4 then some 8 else none
theorem τB_cases{k p:Nat}(h:τB k=some p):k=4∧p=8:=by
 unfold τB at h;cases hb:Nat.beq k 4 with
 |true=>rw[hb]at h;cases h;exact⟨Nat.eq_of_beq_eq_true hb,rfl⟩
 |false=>rw[hb]at h;cases h
theorem cl5(D:Sd)(g:Mp):ActSt D { D with grants:=g } 10 (fun _=>[(6,false, .cells [.junk, .junk, .m 7, .v (.int .i64 D.num), .m 8, .m 9]),(7,false,Jw true 2 D.did),(8,true,Jw false 2 D.grants),(9,false,Jw false 2 D.goes)])
 (fun _=>[(8,true,Jw false 2 g)]) σA τB where
 np6:=by omega
 σ6:=rfl
 τ0:=.inl rfl
 uq ws k own o h:=by
  simp only[List.mem_cons,Prod.mk.injEq,List.not_mem_nil,or_false]at h;rcases h with ⟨rfl,rfl,rfl⟩|⟨rfl,rfl,rfl⟩|⟨rfl,rfl,rfl⟩|⟨rfl,rfl,rfl⟩ <;> rfl
 pre ρ0 ρf w ws hst hρ k own o hk:=by
  have hm:=Qd hk;simp only[Yz,List.mem_cons,Prod.mk.injEq,List.not_mem_nil,or_false]at hm;rcases hm with ⟨rfl,rfl,rfl⟩|⟨rfl,rfl,rfl⟩|⟨rfl,rfl,rfl⟩|⟨rfl,rfl,rfl⟩
  ·skip;exact⟨by omega,by omega,Xa (hst.reg 0 _ rfl) hρ (by omega) (by omega) cl,⟨_,rfl,fun _ h=>h⟩,fun _=>rfl,fun h=>by cases h⟩
  ·skip;exact⟨by omega,by omega,Xa (hst.reg 3 _ rfl) hρ (by omega) (by omega) cl,⟨_,rfl,fun _ h=>h⟩,fun _=>rfl,fun h=>by cases h⟩
  ·skip;exact⟨by omega,by omega,Xa (hst.reg 4 _ rfl) hρ (by omega) (by omega) cl,⟨_,rfl,fun _ h=>h⟩,fun _=>rfl,fun _=>⟨8,rfl⟩⟩
  ·skip;exact⟨by omega,by omega,Xa (hst.reg 5 _ rfl) hρ (by omega) (by omega) cl,⟨_,rfl,fun _ h=>h⟩,fun _=>rfl,fun h=>by cases h⟩
 inj ws k k' hk hk' hσ:=by
  obtain⟨_,_,h1⟩:=Xn hk;obtain⟨_,_,h2⟩:=Xn hk';simp only[List.mem_cons,Prod.mk.injEq,List.not_mem_nil,or_false]at h1 h2;rcases h1 with ⟨rfl,_⟩|⟨rfl,_⟩|⟨rfl,_⟩|⟨rfl,_⟩ <;> rcases h2 with ⟨rfl,_⟩|⟨rfl,_⟩|⟨rfl,_⟩|⟨rfl,_⟩ <;> first|rfl|exact absurd hσ (by decide)
 τi k k' p h h':=by rw[(τB_cases h).1,(τB_cases h').1]
 hi ws p x h:=by
  have:=Qd h;simp only[List.mem_cons,Prod.mk.injEq,List.not_mem_nil,or_false]at this;obtain⟨rfl,h1,_⟩:=this;exact⟨by omega,by omega,h1⟩
 post ρ0 ρ' ρ1 w w' ws hst hρ hs hn hp:=by
  have hsame:∀n,ρ1 n=ρ0 n:=fun n=>by
   cases ht:τB n with
   |none=>exact hn n ht
   |some p =>
    obtain⟨rfl,rfl⟩:=τB_cases ht;rw[hs 4 8 ht,hρ 8 (by omega) (by omega)];rfl
  refine⟨ws,hst.ws.same rfl fun j=>hsame _,fun k o' h=>?_⟩
  match k,h with
  |0,h=>exact .inl ⟨rfl,h,fun n _=>hsame n⟩
  |1,h=>exact .inl ⟨rfl,h,fun n _=>hsame n⟩
  |2,h=>exact .inl ⟨rfl,h,fun n _=>hsame n⟩
  |3,h=>exact .inl ⟨rfl,h,fun n _=>hsame n⟩
  |4,h =>
   cases h;have h8:=hp 8 true _ rfl;exact .inr ⟨8,_,rfl,rfl,SatO.mv h8 (hs 4 8 rfl) rfl (fun h=>h) (fun i j c hc=>by simp[Jw,SO.cell?]at hc) (Nat.le_refl _) (fun Φ h=>⟨Φ,h,fun _ h=>h⟩) (fun Φ h=>⟨Φ,h⟩) (fun _ h=>by cases h) (fun _ h=>by cases h) rfl rfl,fun _ h=>h,fun _=>rfl⟩
  |5,h=>exact .inl ⟨rfl,h,fun n _=>hsame n⟩
  |k+6,h=>exact .inl ⟨rfl,h,fun n _=>hsame n⟩
theorem ae2{ρ ρ':Jn}{w:World}{k k' n:Nat}{vs:Bool}{M:Mp}(h:SatO ρ w k true (Jw vs n M))(hk:ρ' k'=ρ k):SatO ρ' w k' true (Jw vs n M) :=
 SatO.mv h hk rfl (fun h=>h) (fun i j c hc=>by simp[Jw,SO.cell?]at hc) (Nat.le_refl _) (fun Φ h=>⟨Φ,h,fun _ h=>h⟩) (fun Φ h=>⟨Φ,h⟩) (fun _ h=>by cases h) (fun _ h=>by cases h) rfl rfl
def σD(k:Nat):Nat:=bif Nat.beq k 6 then 0 else k-3
def τD(k:Nat):Option Nat:=bif Nat.beq k 4 then some 7 else bif Nat.beq k 5 then some 8 else none
theorem τD_cases{k p:Nat}(h:τD k=some p):k=4∧p=7∨k=5∧p=8:=by
 unfold τD at h;cases hb:Nat.beq k 4 with
 |true=>rw[hb]at h;cases h;exact .inl ⟨Nat.eq_of_beq_eq_true hb,rfl⟩
 |false =>
  rw[hb]at h;cases hb5:Nat.beq k 5 with
  |true=>rw[hb5]at h;cases h;exact .inr ⟨Nat.eq_of_beq_eq_true hb5,rfl⟩
  |false=>rw[hb5]at h;cases h
theorem bZ1(D:Sd)(g go:Mp):ActSt D { D with grants:=g,goes:=go } 9 (fun _=>[(6,false, .cells [.junk, .junk, .junk, .v (.int .i64 D.num), .m 7, .m 8]),(7,true,Jw false 2 D.grants),(8,true,Jw false 2 D.goes)])
 (fun _=>[(7,true,Jw false 2 g),(8,true,Jw false 2 go)]) σD τD where
 np6:=by omega
 σ6:=rfl
 τ0:=.inl rfl
 uq ws k own o h:=by
  simp only[List.mem_cons,Prod.mk.injEq,List.not_mem_nil,or_false]at h;rcases h with ⟨rfl,rfl,rfl⟩|⟨rfl,rfl,rfl⟩|⟨rfl,rfl,rfl⟩ <;> rfl
 pre ρ0 ρf w ws hst hρ k own o hk:=by
  have hm:=Qd hk;simp only[Yz,List.mem_cons,Prod.mk.injEq,List.not_mem_nil,or_false]at hm;rcases hm with ⟨rfl,rfl,rfl⟩|⟨rfl,rfl,rfl⟩|⟨rfl,rfl,rfl⟩
  ·skip;exact⟨by omega,by omega,Xa (hst.reg 0 _ rfl) hρ (by omega) (by omega) cl,⟨_,rfl,fun _ h=>h⟩,fun _=>rfl,fun h=>by cases h⟩
  ·skip;exact⟨by omega,by omega,Xa (hst.reg 4 _ rfl) hρ (by omega) (by omega) cl,⟨_,rfl,fun _ h=>h⟩,fun _=>rfl,fun _=>⟨7,rfl⟩⟩
  ·skip;exact⟨by omega,by omega,Xa (hst.reg 5 _ rfl) hρ (by omega) (by omega) cl,⟨_,rfl,fun _ h=>h⟩,fun _=>rfl,fun _=>⟨8,rfl⟩⟩
 inj ws k k' hk hk' hσ:=by
  obtain⟨_,_,h1⟩:=Xn hk;obtain⟨_,_,h2⟩:=Xn hk';simp only[List.mem_cons,Prod.mk.injEq,List.not_mem_nil,or_false]at h1 h2;rcases h1 with ⟨rfl,_⟩|⟨rfl,_⟩|⟨rfl,_⟩ <;> rcases h2 with ⟨rfl,_⟩|⟨rfl,_⟩|⟨rfl,_⟩ <;> first|rfl|exact absurd hσ (by decide)
 τi k k' p h h':=by
  rcases τD_cases h with ⟨h1,h2⟩|⟨h1,h2⟩ <;> rcases τD_cases h' with ⟨h3,h4⟩|⟨h3,h4⟩ <;> omega
 hi ws p x h:=by
  have:=Qd h;simp only[List.mem_cons,Prod.mk.injEq,List.not_mem_nil,or_false]at this;rcases this with ⟨rfl,h1,_⟩|⟨rfl,h1,_⟩
  ·exact⟨by omega,by omega,h1⟩
  ·exact⟨by omega,by omega,h1⟩
 post ρ0 ρ' ρ1 w w' ws hst hρ hs hn hp:=by
  have hsame:∀n,ρ1 n=ρ0 n:=fun n=>by
   cases ht:τD n with
   |none=>exact hn n ht
   |some p =>
    rcases τD_cases ht with ⟨rfl,rfl⟩|⟨rfl,rfl⟩
    ·rw[hs 4 7 ht,hρ 7 (by omega) (by omega)];rfl
    ·rw[hs 5 8 ht,hρ 8 (by omega) (by omega)];rfl
  refine⟨ws,hst.ws.same rfl fun j=>hsame _,fun k o' h=>?_⟩
  match k,h with
  |0,h=>exact .inl ⟨rfl,h,fun n _=>hsame n⟩
  |1,h=>exact .inl ⟨rfl,h,fun n _=>hsame n⟩
  |2,h=>exact .inl ⟨rfl,h,fun n _=>hsame n⟩
  |3,h=>exact .inl ⟨rfl,h,fun n _=>hsame n⟩
  |4,h =>
   cases h;exact .inr ⟨7,_,rfl,rfl,ae2 (hp 7 true _ rfl) (hs 4 7 rfl),fun _ h=>h,fun _=>rfl⟩
  |5,h =>
   cases h;exact .inr ⟨8,_,rfl,rfl,ae2 (hp 8 true _ rfl) (hs 5 8 rfl),fun _ h=>h,fun _=>rfl⟩
  |k+6,h=>exact .inl ⟨rfl,h,fun n _=>hsame n⟩
def σF(k:Nat):Nat:=k-6
def τF(k:Nat):Option Nat:=bif Nat.beq k 0 then some 6 else bif Nat.beq k 4 then some 11 else bif Nat.beq k 5 then some 12 else none
theorem τF_cases{k p:Nat}(h:τF k=some p):k=0∧p=6∨k=4∧p=11∨k=5∧p=12:=by
 unfold τF at h;cases hb0:Nat.beq k 0 with
 |true=>rw[hb0]at h;cases h;exact .inl ⟨Nat.eq_of_beq_eq_true hb0,rfl⟩
 |false =>
  rw[hb0]at h;cases hb:Nat.beq k 4 with
  |true=>rw[hb]at h;cases h;exact .inr (.inl ⟨Nat.eq_of_beq_eq_true hb,rfl⟩)
  |false =>
   rw[hb]at h;cases hb5:Nat.beq k 5 with
   |true=>rw[hb5]at h;cases h;exact .inr (.inr ⟨Nat.eq_of_beq_eq_true hb5,rfl⟩)
   |false=>rw[hb5]at h;cases h
theorem aV5{D:Sd}{n:Nat}(h:(SO.cells (sdC D)).uses [n]=true):1≤n∧n≤5:=by
 have hn:XP [n] (sdC D)=true:=h;obtain⟨c,hc,hu⟩:=Qo.1 hn;obtain⟨j,hj,hjn⟩:=SC.uses_iff.1 hu;simp at hjn;subst hjn;simp at hc;rcases hc with rfl|rfl|rfl|rfl|rfl|rfl <;> simp[SC.nms]at hj <;> omega
theorem cl6(D:Sd):ActSt D { D with grants:=Mp.nil,goes:=Mp.nil } 10 (fun ws=>[(6,true, .cells [.s 7 0 D.size.length 1, .s 8 0 D.ovs.length 1, .m 9, .v (.int .i64 D.num), .junk, .junk]),(7,false, .arr (Yn D.size)),(8,false, .arr (ah0 ws)),(9,false,Jw true 2 D.did)])
 (fun _=>[(6,true, .cells [.s 7 0 D.size.length 1, .s 8 0 D.ovs.length 1, .m 9, .v (.int .i64 D.num), .m 11, .m 12]),(11,true,Jw false 2 Mp.nil),(12,true,Jw false 2 Mp.nil)]) σF τF where
 np6:=by omega
 σ6:=rfl
 τ0:=.inr rfl
 uq ws k own o h:=by
  simp only[List.mem_cons,Prod.mk.injEq,List.not_mem_nil,or_false]at h;rcases h with ⟨rfl,rfl,rfl⟩|⟨rfl,rfl,rfl⟩|⟨rfl,rfl,rfl⟩|⟨rfl,rfl,rfl⟩ <;> rfl
 pre ρ0 ρf w ws hst hρ k own o hk:=by
  have hm:=Qd hk;simp only[Yz,List.mem_cons,Prod.mk.injEq,List.not_mem_nil,or_false]at hm;rcases hm with ⟨rfl,rfl,rfl⟩|⟨rfl,rfl,rfl⟩|⟨rfl,rfl,rfl⟩|⟨rfl,rfl,rfl⟩
  ·skip;exact⟨by omega,by omega,Xa (hst.reg 0 _ rfl) hρ (by omega) (by omega) cl,⟨_,rfl,fun _ h=>h⟩,fun _=>rfl,fun _=>⟨6,rfl⟩⟩
  ·skip;exact⟨by omega,by omega,Xa (hst.reg 1 _ rfl) hρ (by omega) (by omega) cl,⟨_,rfl,fun _ h=>h⟩,fun _=>rfl,fun h=>by cases h⟩
  ·skip;exact⟨by omega,by omega,Xa (hst.reg 2 _ rfl) hρ (by omega) (by omega) cl,⟨_,rfl,fun _ h=>h⟩,fun _=>rfl,fun h=>by cases h⟩
  ·skip;exact⟨by omega,by omega,Xa (hst.reg 3 _ rfl) hρ (by omega) (by omega) cl,⟨_,rfl,fun _ h=>h⟩,fun _=>rfl,fun h=>by cases h⟩
 inj ws k k' hk hk' hσ:=by
  obtain⟨_,_,h1⟩:=Xn hk;obtain⟨_,_,h2⟩:=Xn hk';simp only[List.mem_cons,Prod.mk.injEq,List.not_mem_nil,or_false]at h1 h2;rcases h1 with ⟨rfl,_⟩|⟨rfl,_⟩|⟨rfl,_⟩|⟨rfl,_⟩ <;> rcases h2 with ⟨rfl,_⟩|⟨rfl,_⟩|⟨rfl,_⟩|⟨rfl,_⟩ <;> first|rfl|exact absurd hσ (by decide)
 τi k k' p h h':=by
  rcases τF_cases h with ⟨h1,h2⟩|⟨h1,h2⟩|⟨h1,h2⟩ <;> rcases τF_cases h' with ⟨h3,h4⟩|⟨h3,h4⟩|⟨h3,h4⟩ <;> omega
 hi ws p x h:=by
  have:=Qd h;simp only[List.mem_cons,Prod.mk.injEq,List.not_mem_nil,or_false]at this;rcases this with ⟨rfl,h1,_⟩|⟨rfl,h1,_⟩|⟨rfl,h1,_⟩
  ·exact⟨by omega,by omega,h1⟩
  ·exact⟨by omega,by omega,h1⟩
  ·exact⟨by omega,by omega,h1⟩
 post ρ0 ρ' ρ1 w w' ws hst hρ hs hn hp:=by
  have hsame:∀n,n≠4→n≠5→ρ1 n=ρ0 n:=fun n h4 h5=>by
   cases ht:τF n with
   |none=>exact hn n ht
   |some p =>
    rcases τF_cases ht with ⟨rfl,rfl⟩|⟨rfl,rfl⟩|⟨rfl,rfl⟩
    ·rw[hs 0 6 ht,hρ 6 (by omega) (by omega)];rfl
    ·omega
    ·omega
  refine⟨ws,hst.ws.same rfl fun j=>hsame _ (by omega) (by omega),fun k o' h=>?_⟩
  match k,h with
  |0,h =>
   cases h;refine .inr ⟨6,_,rfl,rfl, ?_,fun _ h=>h,fun _=>rfl⟩;have h6:=hp 6 true _ rfl
   let ν:Nat→Nat:=fun k=>bif Nat.beq k 0 then 6 else bif Nat.beq k 1 then 7 else bif Nat.beq k 2 then 8 else bif Nat.beq k 3 then 9 else bif Nat.beq k 4 then 11 else 12
   have h6':SatO ρ' w' (ν 0) true ((SO.cells (sdC { D with grants:=Mp.nil,goes:=Mp.nil })).ren ν):=h6;refine(SatO.of_ren (σ:=ν) h6').asg (hs 0 6 rfl) fun n hu=>?_;obtain⟨h1,h5⟩:=aV5 hu;have:n=1∨n=2∨n=3∨n=4∨n=5:=by omega
   rcases this with rfl|rfl|rfl|rfl|rfl
   ·rw[hsame 1 (by omega) (by omega)];exact(hρ 7 (by omega) (by omega)).symm
   ·rw[hsame 2 (by omega) (by omega)];exact(hρ 8 (by omega) (by omega)).symm
   ·rw[hsame 3 (by omega) (by omega)];exact(hρ 9 (by omega) (by omega)).symm
   ·exact hs 4 11 rfl
   ·exact hs 5 12 rfl
  |1,h=>cases h;exact .inl ⟨rfl,rfl,fun n h=>by cases h⟩
  |2,h=>cases h;exact .inl ⟨rfl,rfl,fun n h=>by cases h⟩
  |3,h=>cases h;exact .inl ⟨rfl,rfl,fun n h=>by cases h⟩
  |4,h =>
   cases h;exact .inr ⟨11,_,rfl,rfl,ae2 (hp 11 true _ rfl) (hs 4 11 rfl),fun _ h=>h,fun _=>rfl⟩
  |5,h =>
   cases h;exact .inr ⟨12,_,rfl,rfl,ae2 (hp 12 true _ rfl) (hs 5 12 rfl),fun _ h=>h,fun _=>rfl⟩
  |k+6,h =>
   refine .inl ⟨rfl,h,fun n hu=>?_⟩;obtain⟨ov,_,rfl⟩:=Option.map_eq_some_iff.1 (show(D.ovs[k]?).map (fun ov=>SO.arr (Vn ov))=some o' from h);cases hu
theorem ah2{D:Sd}{ws:List Value}{j:Nat}{ov:List Ky}(hj:D.ovs[j]? = some ov):VU D ws (j+6)=some (.arr (Vn ov)):=by
 show(D.ovs[j]?).map (fun ov=>SO.arr (Vn ov))=_;rw[hj];rfl
abbrev osO(ws:List Value)(j:Nat):List (Option Value):=(ws.map some).set j none
theorem ah3(ws:List Value)(j:Nat):(osO ws j).length=ws.length:=by simp[osO]
theorem bO1{ws:List Value}{j:Nat}(h:j<ws.length):(osO ws j)[j]? = some none:=List.getElem?_set_self (by simpa using h)
theorem cs6{ws:List Value}{j:Nat}(i:Nat)(h:(osO ws j)[i]? = some none):i=j:=by
 by_cases hij:i=j
 ·exact hij
 ·unfold osO at h;rw[List.getElem?_set_ne (fun hh=>hij hh.symm),List.getElem?_map]at h;cases hx:ws[i]? <;> rw[hx]at h <;> cases h
def σY(j k:Nat):Nat:=bif Nat.beq k 6 then 0 else bif Nat.beq k 7 then 2 else bif Nat.beq k 8 then 3 else j+6
def τY(j k:Nat):Option Nat:=bif Nat.beq k 2 then some 7 else bif Nat.beq k 3 then some 8 else bif Nat.beq k (j+6)then some 9 else none
theorem τY_cases{j k p:Nat}(h:τY j k=some p):k=2∧p=7∨k=3∧p=8∨k=j+6∧p=9:=by
 unfold τY at h;cases hb0:Nat.beq k 2 with
 |true=>rw[hb0]at h;cases h;exact .inl ⟨Nat.eq_of_beq_eq_true hb0,rfl⟩
 |false =>
  rw[hb0]at h;cases hb:Nat.beq k 3 with
  |true=>rw[hb]at h;cases h;exact .inr (.inl ⟨Nat.eq_of_beq_eq_true hb,rfl⟩)
  |false =>
   rw[hb]at h;cases hb5:Nat.beq k (j+6)with
   |true=>rw[hb5]at h;cases h;exact .inr (.inr ⟨Nat.eq_of_beq_eq_true hb5,rfl⟩)
   |false=>rw[hb5]at h;cases h
theorem τY_j(j:Nat):τY j (j+6)=some 9:=by
 unfold τY;have e2:Nat.beq (j+6) 2=false:=by cases h:Nat.beq (j+6) 2 with
  |false=>rfl
  |true=>have:=Nat.eq_of_beq_eq_true h;omega
 have e3:Nat.beq (j+6) 3=false:=by cases h:Nat.beq (j+6) 3 with
  |false=>rfl
  |true=>have:=Nat.eq_of_beq_eq_true h;omega
 rw[e2,e3,Nat.beq_refl];rfl
theorem τY_none{j k:Nat}(h2:k≠2)(h3:k≠3)(hj:k≠j+6):τY j k=none:=by
 cases h:τY j k with
 |none=>rfl
 |some p=>rcases τY_cases h with ⟨h,_⟩|⟨h,_⟩|⟨h,_⟩ <;> omega
theorem al0{ρ ρ':Jn}{w:World}{k k':Nat}{xs:List Ky}(h:SatO ρ w k true (.arr (Vn xs)))(hk:ρ' k'=ρ k):SatO ρ' w k' true (.arr (Vn xs)) :=
 SatO.mv h hk rfl (fun h=>h) (fun x j c hc=>⟨c,hc,fun v hv=>SC.rel_agree (fun n hn=>by
  rw[arr_cell?]at hc;obtain⟨y,_,hy⟩:=Option.bind_eq_some_iff.1 hc;have:=(Vn xs).hn y c (List.mem_of_getElem? hy) n hn;cases this) hv⟩) (Nat.le_refl _) (fun _ h=>by cases h) (fun _ h=>by cases h) (fun _ h=>by cases h) (fun _ h=>by cases h) rfl rfl
theorem bZ2{ρ0 ρ1:Jn}{D D':Sd}{ws:List Value}{j:Nat}{v:Value}{ov':List Ky}(h:WsOK ρ0 D ws)(hjl:j<D.ovs.length)(ho:D'.ovs=D.ovs.set j ov')(hρ:∀i,i≠j→ρ1 (6+i)=ρ0 (6+i))(hv:(SC.s (6+j) 0 ov'.length 2).rel ρ1 v) :
 WsOK ρ1 D' (ws.set j v) where
 len:=by rw[ho,List.length_set,List.length_set];exact h.len
 rel i ov hi:=by
  rw[ho]at hi;by_cases hij:i=j
  ·subst hij;rw[List.getElem?_set_self hjl]at hi;cases hi;exact⟨v,List.getElem?_set_self (by rw[h.len];exact hjl),hv⟩
  ·rw[List.getElem?_set_ne (fun hh=>hij hh.symm)]at hi ⊢;obtain⟨u,h1,h2⟩:=h.rel i ov hi;refine⟨u,h1,SC.rel_agree (fun n hn=>?_) h2⟩;have:n=6+i:=by simpa [SC.nms] using hn
   rw[this];exact hρ i hij
theorem bZ3(D:Sd)(j:Nat)(ov ov':List Ky)(hj:D.ovs[j]? = some ov)(did':Mp):ActSt D { D with ovs:=D.ovs.set j ov',did:=did' } 10
 (fun ws=>[(6,false, .cells [.junk, .s 7 0 (osO ws j).length 1, .m 8, .v (.int .i64 D.num), .junk, .junk]),(7,true, .arr (Gv 9 ov.length (osO ws j))),(8,true,Jw true 2 D.did),(9,true, .arr (Vn ov))])
 (fun ws=>[(7,true, .arr (Gv 9 ov'.length (osO ws j))),(8,true,Jw true 2 did'),(9,true, .arr (Vn ov'))]) (σY j) (τY j) where
 np6:=by omega
 σ6:=rfl
 τ0:=.inl (τY_none (by omega) (by omega) (by omega))
 uq ws k own o h:=by
  simp only[List.mem_cons,Prod.mk.injEq,List.not_mem_nil,or_false]at h;rcases h with ⟨rfl,rfl,rfl⟩|⟨rfl,rfl,rfl⟩|⟨rfl,rfl,rfl⟩|⟨rfl,rfl,rfl⟩ <;> rfl
 pre ρ0 ρf w ws hst hρ k own o hk:=by
  have hm:=Qd hk;simp only[Yz,List.mem_cons,Prod.mk.injEq,List.not_mem_nil,or_false]at hm;have hlen:(osO ws j).length=D.ovs.length:=by rw[ah3,hst.ws.len]
  rcases hm with ⟨rfl,rfl,rfl⟩|⟨rfl,rfl,rfl⟩|⟨rfl,rfl,rfl⟩|⟨rfl,rfl,rfl⟩
  ·rw[hlen];exact⟨by omega,by omega,Xa (hst.reg 0 _ rfl) hρ (by omega) (by omega) cl,⟨_,rfl,fun _ h=>h⟩,fun _=>rfl,fun h=>by cases h⟩
  ·exact⟨by omega,by omega,bu2 true hst hj (hρ 7 (by omega) (by omega)) (by rw[hρ 9 (by omega) (by omega),Nat.add_comm];rfl),⟨_,rfl,fun _ h=>h⟩,fun _=>rfl,fun _=>⟨7,rfl⟩⟩
  ·skip;exact⟨by omega,by omega,Xa (hst.reg 3 _ rfl) hρ (by omega) (by omega) cl,⟨_,rfl,fun _ h=>h⟩,fun _=>rfl,fun _=>⟨8,rfl⟩⟩
  ·exact⟨by omega,by omega,al0 (hst.reg (j+6) _ (ah2 hj)) (hρ 9 (by omega) (by omega)),⟨_,ah2 hj,fun _ h=>h⟩,fun _=>rfl,fun _=>⟨9,τY_j j⟩⟩
 inj ws k k' hk hk' hσ:=by
  obtain⟨_,_,h1⟩:=Xn hk;obtain⟨_,_,h2⟩:=Xn hk';simp only[List.mem_cons,Prod.mk.injEq,List.not_mem_nil,or_false]at h1 h2;rcases h1 with ⟨rfl,_⟩|⟨rfl,_⟩|⟨rfl,_⟩|⟨rfl,_⟩ <;> rcases h2 with ⟨rfl,_⟩|⟨rfl,_⟩|⟨rfl,_⟩|⟨rfl,_⟩ <;> first|rfl|exact absurd hσ (by decide)|(exfalso;revert hσ;simp only[σY,Nat.beq,cond_true,cond_false];omega)
 τi k k' p h h':=by
  rcases τY_cases h with ⟨h1,h2⟩|⟨h1,h2⟩|⟨h1,h2⟩ <;> rcases τY_cases h' with ⟨h3,h4⟩|⟨h3,h4⟩|⟨h3,h4⟩ <;> omega
 hi ws p x h:=by
  have:=Qd h;simp only[List.mem_cons,Prod.mk.injEq,List.not_mem_nil,or_false]at this;rcases this with ⟨rfl,h1,_⟩|⟨rfl,h1,_⟩|⟨rfl,h1,_⟩
  ·exact⟨by omega,by omega,h1⟩
  ·exact⟨by omega,by omega,h1⟩
  ·exact⟨by omega,by omega,h1⟩
 post ρ0 ρ' ρ1 w w' ws hst hρ hs hn hp:=by
  have hjl:j<D.ovs.length:=(List.getElem?_eq_some_iff.1 hj).1;have hsame:∀n,ρ1 n=ρ0 n:=fun n=>by
   cases ht:τY j n with
   |none=>exact hn n ht
   |some p =>
    rcases τY_cases ht with ⟨rfl,rfl⟩|⟨rfl,rfl⟩|⟨rfl,rfl⟩
    ·rw[hs 2 7 ht,hρ 7 (by omega) (by omega)];rfl
    ·rw[hs 3 8 ht,hρ 8 (by omega) (by omega)];rfl
    ·rw[hs _ 9 ht,hρ 9 (by omega) (by omega)];rfl
  obtain⟨v,hv,h2⟩:=bE1 (ρ1:=ρ1) (by rw[hst.ws.len];exact hjl) (hp 7 true _ rfl) (hs 2 7 rfl);refine⟨ws.set j v,bZ2 hst.ws hjl rfl (fun i _=>hsame _) ?_,fun k o' h=>?_⟩
  ·have e:ρ1 (6+j)=ρ' 9:=by rw[Nat.add_comm];exact hs _ 9 (τY_j j)
   simp only[SC.rel,Jr,e]at hv ⊢;exact hv
  match k,h with
  |0,h =>
   refine .inl ⟨τY_none (by omega) (by omega) (by omega), ?_,fun n _=>hsame n⟩;rw[←h];show some (SO.cells (sdC D))=some (SO.cells (sdC { D with ovs:=D.ovs.set j ov',did:=did' }));simp only[sdC,List.length_set]
  |1,h=>exact .inl ⟨τY_none (by omega) (by omega) (by omega),h,fun n _=>hsame n⟩
  |2,h =>
   cases h;exact .inr ⟨7,_,rfl,rfl,h2,fun _ h=>h,fun _=>rfl⟩
  |3,h =>
   cases h;exact .inr ⟨8,_,rfl,rfl,ae2 (hp 8 true _ rfl) (hs 3 8 rfl),fun _ h=>h,fun _=>rfl⟩
  |4,h=>exact .inl ⟨τY_none (by omega) (by omega) (by omega),h,fun n _=>hsame n⟩
  |5,h=>exact .inl ⟨τY_none (by omega) (by omega) (by omega),h,fun n _=>hsame n⟩
  |k+6,h =>
   have h:((D.ovs.set j ov')[k]?).map (fun ov=>SO.arr (Vn ov))=some o':=h;by_cases hkj:k=j
   ·subst hkj;rw[List.getElem?_set_self hjl]at h;cases h;exact .inr ⟨9,_,τY_j k,rfl,al0 (hp 9 true _ rfl) (hs _ 9 (τY_j k)),fun _ h=>h,fun _=>rfl⟩
   ·rw[List.getElem?_set_ne (fun hh=>hkj hh.symm)]at h;exact .inl ⟨τY_none (by omega) (by omega) (by omega),h,fun n _=>hsame n⟩
def σP(j k:Nat):Nat:=bif Nat.beq k 6 then 0 else bif Nat.beq k 7 then 1 else bif Nat.beq k 8 then 2 else bif Nat.beq k 9 then 3 else bif Nat.beq k 10 then 5 else j+6
def τP(j k:Nat):Option Nat:=bif Nat.beq k 2 then some 8 else bif Nat.beq k 3 then some 9 else bif Nat.beq k (j+6)then some 13 else none
theorem τP_cases{j k p:Nat}(h:τP j k=some p):k=2∧p=8∨k=3∧p=9∨k=j+6∧p=13:=by
 unfold τP at h;cases hb0:Nat.beq k 2 with
 |true=>rw[hb0]at h;cases h;exact .inl ⟨Nat.eq_of_beq_eq_true hb0,rfl⟩
 |false =>
  rw[hb0]at h;cases hb:Nat.beq k 3 with
  |true=>rw[hb]at h;cases h;exact .inr (.inl ⟨Nat.eq_of_beq_eq_true hb,rfl⟩)
  |false =>
   rw[hb]at h;cases hb5:Nat.beq k (j+6)with
   |true=>rw[hb5]at h;cases h;exact .inr (.inr ⟨Nat.eq_of_beq_eq_true hb5,rfl⟩)
   |false=>rw[hb5]at h;cases h
theorem τP_j(j:Nat):τP j (j+6)=some 13:=by
 unfold τP;have e2:Nat.beq (j+6) 2=false:=by cases h:Nat.beq (j+6) 2 with
  |false=>rfl
  |true=>have:=Nat.eq_of_beq_eq_true h;omega
 have e3:Nat.beq (j+6) 3=false:=by cases h:Nat.beq (j+6) 3 with
  |false=>rfl
  |true=>have:=Nat.eq_of_beq_eq_true h;omega
 rw[e2,e3,Nat.beq_refl];rfl
theorem τP_none{j k:Nat}(h2:k≠2)(h3:k≠3)(hj:k≠j+6):τP j k=none:=by
 cases h:τP j k with
 |none=>rfl
 |some p=>rcases τP_cases h with ⟨h,_⟩|⟨h,_⟩|⟨h,_⟩ <;> omega
abbrev cs7(b:Bool)(D:Sd)(j:Nat)(ov:List Ky)(ws:List Value):Je :=
 [(6,false, .cells [.s 7 0 D.size.length 1, .s 8 0 (osO ws j).length 1, .m 9, .v (.int .i64 D.num), .junk, .m 10]),(7,false, .arr (Yn D.size)),(8,b, .arr (Gv 11 ov.length (osO ws j))),(9,b,Jw true 2 D.did),(10,false,Jw false 2 D.goes),(11,b, .arr (Vn ov))]
theorem bZ4(D:Sd)(j:Nat)(ov:List Ky)(hj:D.ovs[j]? = some ov) :ActSt D D 12 (cs7 false D j ov) (fun ws=>[]) (σP j) (fun _=>none) where
 np6:=by omega
 σ6:=rfl
 τ0:=.inl rfl
 uq ws k own o h:=by
  simp only[List.mem_cons,Prod.mk.injEq,List.not_mem_nil,or_false]at h;rcases h with ⟨rfl,rfl,rfl⟩|⟨rfl,rfl,rfl⟩|⟨rfl,rfl,rfl⟩|⟨rfl,rfl,rfl⟩|⟨rfl,rfl,rfl⟩|⟨rfl,rfl,rfl⟩ <;> rfl
 pre ρ0 ρf w ws hst hρ k own o hk:=by
  have hm:=Qd hk;simp only[Yz,List.mem_cons,Prod.mk.injEq,List.not_mem_nil,or_false]at hm;have hlen:(osO ws j).length=D.ovs.length:=by rw[ah3,hst.ws.len]
  rcases hm with ⟨rfl,rfl,rfl⟩|⟨rfl,rfl,rfl⟩|⟨rfl,rfl,rfl⟩|⟨rfl,rfl,rfl⟩|⟨rfl,rfl,rfl⟩|⟨rfl,rfl,rfl⟩
  ·rw[hlen];exact⟨by omega,by omega,Xa (hst.reg 0 _ rfl) hρ (by omega) (by omega) cl,⟨_,rfl,fun _ h=>h⟩,fun _=>rfl,fun h=>by cases h⟩
  ·skip;exact⟨by omega,by omega,Xa (hst.reg 1 _ rfl) hρ (by omega) (by omega) cl,⟨_,rfl,fun _ h=>h⟩,fun _=>rfl,fun h=>by cases h⟩
  ·exact⟨by omega,by omega,bu2 false hst hj (hρ 8 (by omega) (by omega)) (by rw[hρ 11 (by omega) (by omega),Nat.add_comm];rfl),⟨_,rfl,fun _ h=>h⟩,fun _=>rfl,fun h=>by cases h⟩
  ·skip;exact⟨by omega,by omega,Xa (hst.reg 3 _ rfl) hρ (by omega) (by omega) cl,⟨_,rfl,fun _ h=>h⟩,fun _=>rfl,fun h=>by cases h⟩
  ·skip;exact⟨by omega,by omega,Xa (hst.reg 5 _ rfl) hρ (by omega) (by omega) cl,⟨_,rfl,fun _ h=>h⟩,fun _=>rfl,fun h=>by cases h⟩
  ·exact⟨by omega,by omega,(al0 (hst.reg (j+6) _ (ah2 hj)) (hρ 11 (by omega) (by omega))).less false,⟨_,ah2 hj,fun _ h=>h⟩,fun _=>rfl,fun h=>by cases h⟩
 inj ws k k' hk hk' hσ:=by
  obtain⟨_,_,h1⟩:=Xn hk;obtain⟨_,_,h2⟩:=Xn hk';simp only[List.mem_cons,Prod.mk.injEq,List.not_mem_nil,or_false]at h1 h2;rcases h1 with ⟨rfl,_⟩|⟨rfl,_⟩|⟨rfl,_⟩|⟨rfl,_⟩|⟨rfl,_⟩|⟨rfl,_⟩ <;> rcases h2 with ⟨rfl,_⟩|⟨rfl,_⟩|⟨rfl,_⟩|⟨rfl,_⟩|⟨rfl,_⟩|⟨rfl,_⟩ <;> first|rfl|exact absurd hσ (by decide)|(exfalso;revert hσ;simp only[σP,Nat.beq,cond_true,cond_false];omega)
 τi k k' p h:=by cases h
 hi ws p x h:=by cases h
 post ρ0 ρ' ρ1 w w' ws hst _ _ hn _:=⟨ws,hst.ws.same rfl fun j=>hn _ rfl,fun k o' h=>.inl ⟨rfl,h,fun n _=>hn n rfl⟩⟩
theorem bZ5(D:Sd)(j:Nat)(ov:List Ky)(hj:D.ovs[j]? = some ov)(ov':List Ky)(did':Mp):ActSt D { D with ovs:=D.ovs.set j ov',did:=did' } 12 (cs7 true D j ov) (fun ws=>[(8,true, .arr (Gv 13 ov'.length (osO ws j))),(9,true,Jw true 2 did'),(13,true, .arr (Vn ov'))]) (σP j) (τP j) where
 np6:=by omega
 σ6:=rfl
 τ0:=.inl (τP_none (by omega) (by omega) (by omega))
 uq ws k own o h:=by
  simp only[List.mem_cons,Prod.mk.injEq,List.not_mem_nil,or_false]at h;rcases h with ⟨rfl,rfl,rfl⟩|⟨rfl,rfl,rfl⟩|⟨rfl,rfl,rfl⟩|⟨rfl,rfl,rfl⟩|⟨rfl,rfl,rfl⟩|⟨rfl,rfl,rfl⟩ <;> rfl
 pre ρ0 ρf w ws hst hρ k own o hk:=by
  have hm:=Qd hk;simp only[Yz,List.mem_cons,Prod.mk.injEq,List.not_mem_nil,or_false]at hm;have hlen:(osO ws j).length=D.ovs.length:=by rw[ah3,hst.ws.len]
  rcases hm with ⟨rfl,rfl,rfl⟩|⟨rfl,rfl,rfl⟩|⟨rfl,rfl,rfl⟩|⟨rfl,rfl,rfl⟩|⟨rfl,rfl,rfl⟩|⟨rfl,rfl,rfl⟩
  ·rw[hlen];exact⟨by omega,by omega,Xa (hst.reg 0 _ rfl) hρ (by omega) (by omega) cl,⟨_,rfl,fun _ h=>h⟩,fun _=>rfl,fun h=>by cases h⟩
  ·skip;exact⟨by omega,by omega,Xa (hst.reg 1 _ rfl) hρ (by omega) (by omega) cl,⟨_,rfl,fun _ h=>h⟩,fun _=>rfl,fun h=>by cases h⟩
  ·exact⟨by omega,by omega,bu2 true hst hj (hρ 8 (by omega) (by omega)) (by rw[hρ 11 (by omega) (by omega),Nat.add_comm];rfl),⟨_,rfl,fun _ h=>h⟩,fun _=>rfl,fun _=>⟨8,rfl⟩⟩
  ·skip;exact⟨by omega,by omega,Xa (hst.reg 3 _ rfl) hρ (by omega) (by omega) cl,⟨_,rfl,fun _ h=>h⟩,fun _=>rfl,fun _=>⟨9,rfl⟩⟩
  ·skip;exact⟨by omega,by omega,Xa (hst.reg 5 _ rfl) hρ (by omega) (by omega) cl,⟨_,rfl,fun _ h=>h⟩,fun _=>rfl,fun h=>by cases h⟩
  ·exact⟨by omega,by omega,(al0 (hst.reg (j+6) _ (ah2 hj)) (hρ 11 (by omega) (by omega))).less true,⟨_,ah2 hj,fun _ h=>h⟩,fun _=>rfl,fun _=>⟨13,τP_j j⟩⟩
 inj ws k k' hk hk' hσ:=by
  obtain⟨_,_,h1⟩:=Xn hk;obtain⟨_,_,h2⟩:=Xn hk';simp only[List.mem_cons,Prod.mk.injEq,List.not_mem_nil,or_false]at h1 h2;rcases h1 with ⟨rfl,_⟩|⟨rfl,_⟩|⟨rfl,_⟩|⟨rfl,_⟩|⟨rfl,_⟩|⟨rfl,_⟩ <;> rcases h2 with ⟨rfl,_⟩|⟨rfl,_⟩|⟨rfl,_⟩|⟨rfl,_⟩|⟨rfl,_⟩|⟨rfl,_⟩ <;> first|rfl|exact absurd hσ (by decide)|(exfalso;revert hσ;simp only[σP,Nat.beq,cond_true,cond_false];omega)
 τi k k' p h h':=by
  rcases τP_cases h with ⟨h1,h2⟩|⟨h1,h2⟩|⟨h1,h2⟩ <;> rcases τP_cases h' with ⟨h3,h4⟩|⟨h3,h4⟩|⟨h3,h4⟩ <;> omega
 hi ws p x h:=by
  have:=Qd h;simp only[List.mem_cons,Prod.mk.injEq,List.not_mem_nil,or_false]at this;rcases this with ⟨rfl,h1,_⟩|⟨rfl,h1,_⟩|⟨rfl,h1,_⟩
  ·exact⟨by omega,by omega,h1⟩
  ·exact⟨by omega,by omega,h1⟩
  ·exact⟨by omega,by omega,h1⟩
 post ρ0 ρ' ρ1 w w' ws hst hρ hs hn hp:=by
  have hjl:j<D.ovs.length:=(List.getElem?_eq_some_iff.1 hj).1;have hsame:∀n,n≠j+6→ρ1 n=ρ0 n:=fun n hnj=>by
   cases ht:τP j n with
   |none=>exact hn n ht
   |some p =>
    rcases τP_cases ht with ⟨rfl,rfl⟩|⟨rfl,rfl⟩|⟨rfl,rfl⟩
    ·rw[hs 2 8 ht,hρ 8 (by omega) (by omega)];rfl
    ·rw[hs 3 9 ht,hρ 9 (by omega) (by omega)];rfl
    ·exact absurd rfl hnj
  obtain⟨v,hv,h2⟩:=bE1 (ρ1:=ρ1) (by rw[hst.ws.len];exact hjl) (hp 8 true _ rfl) (hs 2 8 rfl);refine⟨ws.set j v,bZ2 hst.ws hjl rfl (fun i hij=>hsame _ (by omega)) ?_,fun k o' h=>?_⟩
  ·have e:ρ1 (6+j)=ρ' 13:=by rw[Nat.add_comm];exact hs _ 13 (τP_j j)
   simp only[SC.rel,Jr,e]at hv ⊢;exact hv
  match k,h with
  |0,h =>
   refine .inl ⟨τP_none (by omega) (by omega) (by omega), ?_,fun n hu=>?_⟩
   ·rw[←h];show some (SO.cells (sdC D))=some (SO.cells (sdC { D with ovs:=D.ovs.set j ov',did:=did' }));simp only[sdC,List.length_set]
   ·cases h;have:=(aV5 hu).2;exact hsame n (by omega)
  |1,h=>cases h;exact .inl ⟨τP_none (by omega) (by omega) (by omega),rfl,fun n h=>by cases h⟩
  |2,h =>
   cases h;exact .inr ⟨8,_,rfl,rfl,h2,fun _ h=>h,fun _=>rfl⟩
  |3,h =>
   cases h;exact .inr ⟨9,_,rfl,rfl,ae2 (hp 9 true _ rfl) (hs 3 9 rfl),fun _ h=>h,fun _=>rfl⟩
  |4,h=>cases h;exact .inl ⟨τP_none (by omega) (by omega) (by omega),rfl,fun n h=>by cases h⟩
  |5,h=>cases h;exact .inl ⟨τP_none (by omega) (by omega) (by omega),rfl,fun n h=>by cases h⟩
  |k+6,h =>
   have h:((D.ovs.set j ov')[k]?).map (fun ov=>SO.arr (Vn ov))=some o':=h;by_cases hkj:k=j
   ·subst hkj;rw[List.getElem?_set_self hjl]at h;cases h;exact .inr ⟨13,_,τP_j k,rfl,al0 (hp 13 true _ rfl) (hs _ 13 (τP_j k)),fun _ h=>h,fun _=>rfl⟩
   ·rw[List.getElem?_set_ne (fun hh=>hkj hh.symm)]at h;refine .inl ⟨τP_none (by omega) (by omega) (by omega),h,fun n hu=>?_⟩;obtain⟨ov,_,rfl⟩:=Option.map_eq_some_iff.1 h;cases hu
def bb0(b:Wb)(s:Slp):Wb:={ b with sent:=b.sent+1,mail:=b.mail++[{ s with id:=b.sent+1 }] }
def KL(b:Wb)(x:Slp×Int):Int×Wb:=if x.2=0 then(0,bb0 b x.1)else(x.2,b)
def bb1(b:Wb)(i:Nat):Wb:={ b with mail:=b.mail.eraseIdx i }
theorem az3(b:Wb)(os:List (Option Value))(x:Slp×Int):Xs (b.wv os) x=((KL b x).1,(KL b x).2.wv os):=by
 unfold Xs KL;by_cases h:x.2=0
 ·rw[if_pos h,if_pos h];rfl
 ·rw[if_neg h,if_neg h]
theorem WZ(b:Wb)(x:Slp×Int):(KL b x).2.d=b.d∧(KL b x).2.puts=b.puts∧(KL b x).2.sts=b.sts:=by
 unfold KL;split <;> exact⟨rfl,rfl,rfl⟩
theorem KV(kd a b:Int)(k:Ky)(mass:Int):∀s∈[SV.c (.p 0 0 0 0),YM kd a b k mass],∀n,s.uses [n]=true→n<6:=by
 intro s hs n hn;simp only[List.mem_cons,List.not_mem_nil,or_false]at hs;rcases hs with rfl|rfl
 ·have hn:(SC.p 0 0 0 0).uses [n]=true:=hn;obtain⟨j,hj,hjn⟩:=SC.uses_iff.1 hn;simp at hjn;subst hjn;simp[SC.nms]at hj;omega
 ·cases hn
theorem Uq{α:Type}{l:List α}{i:Nat}{x:α}(h:l[i]? = some x):l=l.set i x:=by
 apply List.ext_getElem?;intro j;by_cases hj:i=j
 ·subst hj;rw[List.getElem?_set_self (List.getElem?_eq_some_iff.1 h).1,h]
 ·rw[List.getElem?_set_ne hj]
structure WbB (b:Wb):Prop where
 sent:0≤b.sent∧b.sent≤1000000
 mail:b.mail.length≤1000000
 now:0≤b.now∧b.now≤1000000
theorem WbB.wv{b:Wb}(h:WbB b)(os:List (Option Value)):WvB (b.wv os):=⟨h.sent,h.mail,h.now⟩
abbrev WG(b b':Wb)(e kd a bb:Int)(k:Ky)(mass:Int):Prop:=Triple Tryz.prog 17 [.c (.p 0 0 0 0),YM kd a bb k mass] (KD b) 7 (iv .i64 e) (ar5 b')
theorem Wy{b b':Wb}{e kd a bb mass:Int}{k:Ky}{D:Sd}(h0:b.sts[0]? = some D)(hs:b'.sts=b.sts)
 (T:∀os,os.length=b.sts.length→os[0]? = some none→Triple Tryz.prog 17 [.c (.p 0 0 0 0),YM kd a bb k mass] (XS (b.wv os)++Yz) 7 (iv .i64 e) (XN 7 (b'.wv os) b'.d b'.puts)):WG b b' e kd a bb k mass :=
 UA (bf5 D) h0 (by rw[hs];exact Uq h0) (KV _ _ _ _ _) (fun _=>rfl) fun os ws h1 h2 _ _=>by
  rw[List.append_nil];exact T os h1 h2
theorem cx6{b:Wb}{D:Sd}(hb:WbB b)(h0:b.sts[0]? = some D)(a bb mass:Int)(k:Ky):WG b (if b.now=1000000 then b else { b with now:=b.now+1 }) (if b.now=1000000 then 2 else 0) 1 a bb k mass:=by
 refine Wy h0 (by split <;> rfl) fun os h1 h2=>?_;have:=cj9 (b.wv os) (hb.wv os) a bb mass k;by_cases hn:b.now=1000000
 ·rw[if_pos hn,if_pos hn];rw[if_pos (show(b.wv os).now=1000000 from hn),if_pos (show(b.wv os).now=1000000 from hn)]at this;exact this
 ·rw[if_neg hn,if_neg hn];rw[if_neg (show ¬(b.wv os).now=1000000 from hn),if_neg (show ¬(b.wv os).now=1000000 from hn)]at this;exact this
theorem bZ6{b:Wb}{D:Sd}(hb:WbB b)(h0:b.sts[0]? = some D)(a bb mass:Int)(k:Ky)(hi:YU (Xx a) 0 b.mail=-1):WG b b 5 8 a bb k mass :=
 Wy h0 rfl fun os _ _=>bt0 (b.wv os) (hb.wv os) a bb mass k (5,b.wv os) (.inl ⟨hi,rfl⟩)
theorem cx7{b:Wb}{D:Sd}(hb:WbB b)(h0:b.sts[0]? = some D)(a bb mass:Int)(k:Ky){i:Nat}{s:Slp}(hi:YU (Xx a) 0 b.mail=i)(hs:b.mail[i]? = some s):WG b (bb1 b i) 0 8 a bb k mass :=
 Wy h0 rfl fun os _ _=>bt0 (b.wv os) (hb.wv os) a bb mass k (0,VB (b.wv os) i) (.inr ⟨i,s,hi,hs,rfl⟩)
theorem cx8{b:Wb}{D:Sd}(h0:b.sts[0]? = some D)(hd:Yk 5 b.d.known)(a bb mass:Int)(k:Ky):WG b { b with d:=(ad9 b.d b.now k).2 } (ad9 b.d b.now k).1 11 a bb k mass :=
 Wy h0 rfl fun os _ _=>ck0 (b.wv os) hd a bb mass k
theorem cx9{b:Wb}{D:Sd}(h0:b.sts[0]? = some D)(kd a bb mass:Int)(k:Ky)(h:kd<1∨11<kd):WG b b 1 kd a bb k mass :=
 Wy h0 rfl fun os _ _=>ck1 (b.wv os) kd a bb mass k h
theorem cy0{b:Wb}{D:Sd}(h0:b.sts[0]? = some D)(a bb mass:Int)(k:Ky)(h:Jf a 1 b.sts.length=false):WG b b 1 2 a bb k mass :=
 Wy h0 rfl fun os hl _=>ck2 (b.wv os) a bb mass k (by rw[show(b.wv os).os.length=b.sts.length from hl];exact h)
theorem cy1{b:Wb}{D:Sd}(h0:b.sts[0]? = some D)(a bb mass:Int)(k:Ky)(h:Jf a 1 b.sts.length=false):WG b b 1 3 a bb k mass :=
 Wy h0 rfl fun os hl _=>ck3 (b.wv os) a bb mass k (by rw[show(b.wv os).os.length=b.sts.length from hl];exact h)
theorem cy2{b:Wb}{D:Sd}(h0:b.sts[0]? = some D)(a bb mass:Int)(k:Ky)(h:Jf a 1 b.sts.length=false):WG b b 1 4 a bb k mass :=
 Wy h0 rfl fun os hl _=>ck4 (b.wv os) a bb mass k (by rw[show(b.wv os).os.length=b.sts.length from hl];exact h)
theorem cy3{b:Wb}{D:Sd}(h0:b.sts[0]? = some D)(a bb mass:Int)(k:Ky)(h:Jf a 1 b.sts.length=false):WG b b 1 5 a bb k mass :=
 Wy h0 rfl fun os hl _=>ck5 (b.wv os) a bb mass k (by rw[show(b.wv os).os.length=b.sts.length from hl];exact h)
theorem cy4{b:Wb}{D:Sd}(h0:b.sts[0]? = some D)(a bb mass:Int)(k:Ky)(h:Jf a 1 b.sts.length=false):WG b b 1 6 a bb k mass :=
 Wy h0 rfl fun os hl _=>ck6 (b.wv os) a bb mass k (by rw[show(b.wv os).os.length=b.sts.length from hl];exact h)
theorem cl7{b:Wb}{D:Sd}(h0:b.sts[0]? = some D)(a bb mass:Int)(k:Ky)(h:Jf a 1 b.sts.length=false):WG b b 1 10 a bb k mass :=
 Wy h0 rfl fun os hl _=>bX3 (b.wv os) a bb mass k (by rw[show(b.wv os).os.length=b.sts.length from hl];exact h)
theorem cl8{b:Wb}{D:Sd}(h0:b.sts[0]? = some D)(a bb mass:Int)(k:Ky)(h:300≤b.sent):WG b b 2 7 a bb k mass :=
 Wy h0 rfl fun os hl _=>bX4 (b.wv os) a bb mass k h
theorem cl9{b:Wb}{D:Sd}(h0:b.sts[0]? = some D)(a bb mass:Int)(k:Ky)(h:300≤b.sent):WG b b 2 9 a bb k mass :=
 Wy h0 rfl fun os hl _=>bX5 (b.wv os) a bb mass k h
theorem cm0{b:Wb}{D:Sd}(h0:b.sts[0]? = some D)(a bb mass:Int)(k:Ky)(h:300≤b.sent)(ha:Jf a 1 b.sts.length=true):WG b b 2 2 a bb k mass :=
 Wy h0 rfl fun os hl _=>bX6 (b.wv os) a bb mass k h (by rw[show(b.wv os).os.length=b.sts.length from hl];exact ha)
theorem cm1{b:Wb}{D:Sd}(h0:b.sts[0]? = some D)(a bb mass:Int)(k:Ky)(h:300≤b.sent)(ha:Jf a 1 b.sts.length=true):WG b b 2 3 a bb k mass :=
 Wy h0 rfl fun os hl _=>bX7 (b.wv os) a bb mass k h (by rw[show(b.wv os).os.length=b.sts.length from hl];exact ha)
theorem cm2{b:Wb}{D:Sd}(h0:b.sts[0]? = some D)(a bb mass:Int)(k:Ky)(h:300≤b.sent)(ha:Jf a 1 b.sts.length=true):WG b b 2 4 a bb k mass :=
 Wy h0 rfl fun os hl _=>bX8 (b.wv os) a bb mass k h (by rw[show(b.wv os).os.length=b.sts.length from hl];exact ha)
theorem cm3{b:Wb}{D:Sd}(h0:b.sts[0]? = some D)(a bb mass:Int)(k:Ky)(h:300≤b.sent)(ha:Jf a 1 b.sts.length=true):WG b b 2 6 a bb k mass :=
 Wy h0 rfl fun os hl _=>bX9 (b.wv os) a bb mass k h (by rw[show(b.wv os).os.length=b.sts.length from hl];exact ha)
theorem bZ7{b:Wb}{D:Sd}(hb:WbB b)(h0:b.sts[0]? = some D)(h3:b.sent<300)(a bb mass:Int)(k:Ky)(x:Slp×Int)(hx:YU (Xx a) 0 b.mail=-1∧x=(VS,5)∨∃i s,YU (Xx a) 0 b.mail=(i:Nat)∧b.mail[i]? = some s∧x=(s,0)) :
 WG b (KL b x).2 (KL b x).1 9 a bb k mass :=
 Wy h0 (WZ b x).2.2 fun os _ _=>by
  have:=cx0 (b.wv os) (hb.wv os) h3 a bb mass k x hx;rw[az3]at this;rw[(WZ b x).1,(WZ b x).2.1];exact this
theorem cm4{b:Wb}{D:Sd}(hb:WbB b)(h0:b.sts[0]? = some D)(h3:b.sent<300)(id bb mass:Int)(k:Ky)(hi:YU (Xx id) 0 b.mail=-1):WG b b 5 7 id bb k mass :=
 Wy h0 rfl fun os _ _=>bY1 (b.wv os) (hb.wv os) h3 id bb mass k hi
def au5(b:Wb)(i:Nat)(s:Slp):Wb :=
 if(Yg b.d b.now s).1.2=true then bb0 { bb1 b i with d:=(Yg b.d b.now s).2 } (Yg b.d b.now s).1.1 else { bb1 b i with d:=(Yg b.d b.now s).2 }
theorem cm5(b:Wb)(os:List (Option Value))(i:Nat)(s:Slp):Yu (b.wv os) i s=(au5 b i s).wv os:=by
 unfold Yu au5;by_cases h:(Yg b.d b.now s).1.2=true
 ·rw[if_pos (show(Yg (b.wv os).d (b.wv os).now s).1.2=true from h),if_pos h];rfl
 ·rw[if_neg (show ¬(Yg (b.wv os).d (b.wv os).now s).1.2=true from h),if_neg h];rfl
theorem bi6(b:Wb)(i:Nat)(s:Slp):(au5 b i s).sts=b.sts∧(au5 b i s).puts=b.puts:=by
 unfold au5;split <;> exact⟨rfl,rfl⟩
theorem bO2{b:Wb}{D:Sd}(hb:WbB b)(h0:b.sts[0]? = some D)(h3:b.sent<300)(hd:DskB b.d)(id bb mass:Int)(k:Ky){i:Nat}{s:Slp}(hi:YU (Xx id) 0 b.mail=i)(hs:b.mail[i]? = some s)(hk:ae0 s.kind=true) :
 WG b (au5 b i s) 0 7 id bb k mass :=
 Wy h0 (bi6 b i s).1 fun os _ _=>by
  have key:Triple Tryz.prog 17 [.c (.p 0 0 0 0),YM 7 id bb k mass] (XS (b.wv os)++Yz) 7 (iv .i64 0) (XN 7 (Yu (b.wv os) i s) (Yu (b.wv os) i s).d (b.wv os).puts):=by
   by_cases k1:s.kind=1
   ·exact bt1 (b.wv os) (hb.wv os) h3 hd id bb mass k i hi s hs k1
   by_cases k4:s.kind=4
   ·exact bt2 (b.wv os) (hb.wv os) h3 hd id bb mass k i hi s hs k4
   by_cases k6:s.kind=6
   ·exact bt3 (b.wv os) (hb.wv os) h3 hd id bb mass k i hi s hs k6
   by_cases k7:s.kind=7
   ·exact bt4 (b.wv os) (hb.wv os) h3 hd id bb mass k i hi s hs k7
   simp[ae0,k1,k4,k6,k7]at hk
  rw[cm5]at key;rw[(bi6 b i s).2];exact key
theorem cm6{b:Wb}(hb:WbB b)(h3:b.sent<300)(id bb mass:Int)(k:Ky){i:Nat}{x:Slp}(hi:YU (Xx id) 0 b.mail=i)(hx:b.mail[i]? = some x)(hk:ae0 x.kind=false)
 {j:Nat} {D:Sd} (hj6:j<6) (hst:x.st=(j:Int)+1) (hj:b.sts[j]? = some D) (hD:StnV D.stn) :
 WG b { bb1 b i with sts:=b.sts.set j { D with grants:=(JK D.stn x).grants,goes:=(JK D.stn x).goes } } (JK D.stn x).err 7 id bb k mass :=
 UA (bZ1 D _ _) hj rfl (KV _ _ _ _ _) (fun _=>rfl) fun os ws h1 h2 _ _=>bY2 (b.wv os) (hb.wv os) h3 id bb mass k i hi x hx hk D.stn hD j hj6 hst h2
theorem cE3{b:Wb}(hb:WbB b)(h3:b.sent<300){i:Nat}{D:Sd}(hi6:i<6)(hi:b.sts[i]? = some D)(hD:StnV D.stn)(bb mass:Int)(k:Ky):WG b (KL b (Uo D.stn k)).2 (KL b (Uo D.stn k)).1 2 ((i:Int)+1) bb k mass :=
 UA (bE2 D) hi (by rw[(WZ _ _).2.2];exact Uq hi) (KV _ _ _ _ _) (fun _=>rfl) fun os ws h1 h2 _ _=>by
  have:=cw6 (b.wv os) (hb.wv os) h3 D.stn hD i hi6 h2 bb mass k;rw[az3]at this;rw[(WZ b _).1,(WZ b _).2.1,List.append_nil];exact this
theorem cE4{b:Wb}(hb:WbB b)(h3:b.sent<300){i:Nat}{D:Sd}(hi6:i<6)(hi:b.sts[i]? = some D)(hD:StnV D.stn)(bb mass:Int)(k:Ky):WG b (KL b (Xh D.stn k)).2 (KL b (Xh D.stn k)).1 3 ((i:Int)+1) bb k mass :=
 UA (bE2 D) hi (by rw[(WZ _ _).2.2];exact Uq hi) (KV _ _ _ _ _) (fun _=>rfl) fun os ws h1 h2 _ _=>by
  have:=cw7 (b.wv os) (hb.wv os) h3 D.stn hD i hi6 h2 bb mass k;rw[az3]at this;rw[(WZ b _).1,(WZ b _).2.1,List.append_nil];exact this
theorem cE5{b:Wb}(hb:WbB b)(h3:b.sent<300){i:Nat}{D:Sd}(hi6:i<6)(hi:b.sts[i]? = some D)(hD:StnV D.stn)(bb mass:Int)(k:Ky) :
 WG b { (KL b (Vh D.stn k).1).2 with sts:=b.sts.set i { D with grants:=(Vh D.stn k).2 } } (KL b (Vh D.stn k).1).1 4 ((i:Int)+1) bb k mass :=
 UA (cl5 D _) hi rfl (KV _ _ _ _ _) (fun _=>rfl) fun os ws h1 h2 _ _=>by
  have:=cw8 (b.wv os) (hb.wv os) h3 D.stn hD i hi6 h2 bb mass k;rw[az3]at this;rw[show({ (KL b (Vh D.stn k).1).2 with sts:=b.sts.set i { D with grants:=(Vh D.stn k).2 } }:Wb).d=b.d from(WZ b _).1,show({ (KL b (Vh D.stn k).1).2 with sts:=b.sts.set i { D with grants:=(Vh D.stn k).2 } }:Wb).puts=b.puts from(WZ b _).2.1];exact this
theorem cE6{b:Wb}(hb:WbB b)(h3:b.sent<300){i:Nat}{D:Sd}(hi6:i<6)(hi:b.sts[i]? = some D)(hD:StnV D.stn)(bb mass:Int)(k:Ky)(hno:Jf mass 0 10000000=true→JP D.did k=true→(Ye D.did k).2.1<0) :
 WG b (KL b (Up D.num D.did k mass)).2 (KL b (Up D.num D.did k mass)).1 6 ((i:Int)+1) bb k mass :=
 UA (cx5 D) hi (by rw[(WZ _ _).2.2];exact Uq hi) (KV _ _ _ _ _) (fun _=>rfl) fun os ws h1 h2 _ _=>by
  have:=cw9 (b.wv os) (hb.wv os) h3 D.num D.did hD.did i hi6 h2 bb mass k hno;rw[az3]at this;rw[(WZ b _).1,(WZ b _).2.1,List.append_nil];exact this
theorem cm7{b:Wb}(hb:WbB b)(h3:b.sent<300){i:Nat}{D:Sd}(hi6:i<6)(hi:b.sts[i]? = some D)(hD:StnV D.stn)(bb mass:Int)(k:Ky){j:Nat}{ov:List Ky}(hj:D.ovs[j]? = some ov)(ho:ov.length≤100000)
 (h1:Jf mass 0 10000000=true) (h2:JP D.did k=true) (h4:(Ye D.did k).2.1=j) :
 WG b { bb0 b ⟨0,7,D.num,k,(Ye D.did k).1,mass⟩with sts:=b.sts.set i { D with ovs:=D.ovs.set j (GJ k ov),did:=D.did.put (Qb k) [(Ye D.did k).1,-1,mass] } } 0 6 ((i:Int)+1) bb k mass :=
 UA (bZ3 D j ov (GJ k ov) hj _) hi rfl (KV _ _ _ _ _) (fun _=>rfl) fun os ws g1 g2 _ g4 =>
  bY0 (b.wv os) (hb.wv os) h3 D.num D.did hD.did i hi6 g2 bb mass k (osO ws j) ov ho j (bO1 (by rw[g4];exact(List.getElem?_eq_some_iff.1 hj).1)) (fun i h=>cs6 i h) h1 h2 h4
theorem bZ8{b:Wb}{i:Nat}{D:Sd}(hi6:i<6)(hi:b.sts[i]? = some D)(hn:D.ovs.length≤4)(bb mass:Int)(k:Ky)(hj:Jf bb 0 ((D.ovs.length:Int)-1)=false):WG b b 1 5 ((i:Int)+1) bb k mass :=
 UA (bO0 D) hi (Uq hi) (KV _ _ _ _ _) (fun _=>rfl) fun os ws h1 h2 _ _=>by
  rw[List.append_nil];exact bN5 (b.wv os) D.num i hi6 h2 bb mass k D.ovs.length hn hj
theorem cm8{b:Wb}{i:Nat}{D:Sd}(hi6:i<6)(hi:b.sts[i]? = some D)(hD:StnV D.stn)(hn:D.ovs.length≤4)(hsz:D.size.length=D.ovs.length)(mass:Int)(k:Ky){j:Nat}{ov:List Ky}(hj:D.ovs[j]? = some ov){z:Int}(hz:D.size[j]? = some z)
 (he:ae1 D.stn k ov.length z≠0):WG b b (ae1 D.stn k ov.length z) 5 ((i:Int)+1) j k mass :=
 UA (bZ4 D j ov hj) hi (Uq hi) (KV _ _ _ _ _) (fun _=>rfl) fun os ws h1 h2 _ g4=>by
  rw[List.append_nil];exact bY4 (b.wv os) D.stn hD i hi6 h2 mass k D.size (osO ws j) ov (by rw[ah3,g4];exact hn) (by rw[ah3,g4];exact hsz) j (bO1 (by rw[g4];exact(List.getElem?_eq_some_iff.1 hj).1)) z hz he
theorem cm9{b:Wb}(hpv:Yk 1 b.puts){i:Nat}{D:Sd}(hi6:i<6)(hi:b.sts[i]? = some D)(hD:StnV D.stn)(hn:D.ovs.length≤4)(hsz:D.size.length=D.ovs.length)(mass:Int)(k:Ky)(hpb:0≤Xc b.puts k∧Xc b.puts k≤1000000)
 {j:Nat} {ov:List Ky} (hj:D.ovs[j]? = some ov) (ho:ov.length≤100000) {z:Int} (hz:D.size[j]? = some z) (h1:JP D.did k=false) (h2:JP D.goes k=true) (h3:ov.length<z) :
 WG b { b with puts:=b.puts.put (Qb k) [Xc b.puts k+1],sts:=b.sts.set i { D with ovs:=D.ovs.set j (ov++[k]),did:=D.did.put (Qb k) [Xc D.goes k,j,0] } } 0 5 ((i:Int)+1) j k mass :=
 UA (bZ5 D j ov hj (ov++[k]) _) hi rfl (KV _ _ _ _ _) (fun _=>rfl) fun os ws g1 g2 _ g4 =>
  bY5 (b.wv os) hpv D.stn hD i hi6 g2 mass k hpb D.size (osO ws j) ov (by rw[ah3,g4];exact hn) (by rw[ah3,g4];exact hsz) ho j (bO1 (by rw[g4];exact(List.getElem?_eq_some_iff.1 hj).1)) (fun i h=>cs6 i h) z hz h1 h2 h3
theorem cy5{b:Wb}{i:Nat}{D:Sd}(hi6:i<6)(hi:b.sts[i]? = some D)(bb mass:Int)(k:Ky):WG b { b with sts:=b.sts.set i { D with grants:=Mp.nil,goes:=Mp.nil } } 0 10 ((i:Int)+1) bb k mass :=
 UA (cl6 D) hi rfl (KV _ _ _ _ _) (fun _=>rfl) fun os ws g1 g2 _ g4=>ck7 (b.wv os) D.num D.did D.size ws D.ovs.length i hi6 g2 bb mass k
theorem bZ9:∀s∈[SV.c (.p 0 0 0 0)],∀n,s.uses [n]=true→n<6:=by
 intro s hs n hn;simp only[List.mem_cons,List.not_mem_nil,or_false]at hs;subst hs;have hn:(SC.p 0 0 0 0).uses [n]=true:=hn;obtain⟨j,hj,hjn⟩:=SC.uses_iff.1 hn;simp at hjn;subst hjn;simp[SC.nms]at hj;omega
theorem cE7(k:Ky):∀s∈[SV.c (.p 0 0 0 0),Gm k],∀n,s.uses [n]=true→n<6:=by
 intro s hs n hn;simp only[List.mem_cons,List.not_mem_nil,or_false]at hs;rcases hs with rfl|rfl
 ·exact bZ9 _ (by simp) n hn
 ·cases hn
theorem cy6{b:Wb}{D:Sd}(h0:b.sts[0]? = some D)(hd:Yk 5 b.d.known)(k:Ky) :
 Triple Tryz.prog 19 [.c (.p 0 0 0 0),Gm k] (KD b) 7 (.tup [.inr (UE (YZ b.d b.now k)), .inl (.v (.bool (b.d.has k)))]) (ar5 { b with d:=YK b.d b.now }) :=
 UA (bf5 D) h0 (Uq h0) (cE7 k) (fun _=>rfl) fun os ws h1 h2 _ _=>by
  rw[List.append_nil];exact cx1 (b.wv os) hd k
theorem cn0{b:Wb}{D:Sd}(h0:b.sts[0]? = some D)(hv:∀y∈b.puts.es,y.2.1=[1]) :
 Triple Tryz.prog 18 [.c (.p 0 0 0 0)] (KD b) 7 (.c (.v KJ)) (ar5 b) :=
 UA (bf5 D) h0 (Uq h0) bZ9 (fun _=>rfl) fun os ws h1 h2 _ _=>by
  rw[List.append_nil];exact cx3 (b.wv os) hv
def KE(rows:List (List Int)):Bx where
 Φ r w:=∀(i:Nat) (row:List Int),rows[i]? = some row→0<r.cap∧∃a c,r.ext[i]? = some (.slice a row.length c)∧row.length≤c∧(0<c→∃b off,a=some ⟨b,off,none⟩) ∧
  ∀j (h:j<row.length) b off,a=some ⟨b,off,none⟩→w.cell? ⟨b,off+j,none⟩=some (.int .i64 row[j])
 loc r w w' hb hΦ i row hi:=by
  obtain⟨hc,a,c,he,hl,ha,hcell⟩:=hΦ i row hi
  refine⟨hc,a,c,he,hl,ha,fun j hj b off hab=>?_⟩
  rw[←hcell j hj b off hab]
  refine cell?_congr (a:=⟨b,off+j,none⟩) (hb hc b (.inr ?_))
  exact List.mem_flatMap.2 ⟨_,List.mem_of_getElem? he,by rw[hab,aN5 (by omega)];simp⟩
theorem cn1{ρ:Jn}{w:World}{k i:Nat}{rows:List (List Int)}{row:List Int}{own:Bool}(h:SatO ρ w k own (.box (KE rows)))(hi:rows[i]? = some row){v:Value}(hv:(SC.ghost k i).rel ρ v) :
 ∃r:Rg,0<(SO.box (KE rows)).room (ρ k)∧(0<r.cap→r.blk∈(SO.box (KE rows)).fp (ρ k))∧∀(ρf:Jn) (j:Nat),ρf j=r→(SC.s j 0 row.length 1).rel ρf v∧SatO ρf w j false (.arr (Yn row)):=by
 obtain⟨hc,a,c,he,hl,ha,hcell⟩:=h.boxed _ rfl i row hi;obtain⟨a',l',c',rfl,he'⟩:=hv;rw[he]at he';cases he';cases a with
 |none =>
  have hc0:c=0:=by
   by_cases h0:0<c
   ·obtain⟨b,off,hab⟩:=ha h0;cases hab
   ·omega
  subst hc0;refine⟨⟨(ρ k).blk,0,0,[]⟩,hc,fun h=>absurd h (by simp),fun ρf j hj=>?_⟩;refine⟨⟨none,by rw[hj];rfl,by rw[hj];simpa using hl,fun h=>by rw[hj]at h;exact absurd h (by simp)⟩, ?_⟩;have h0:row=[]:=List.length_eq_zero_iff.1 (by omega);subst h0
  exact {
   wf := Nat.zero_le _, at_ := fun x m d hd => by rw[arr_cell?]at hd;have hd : ([] : List Int)[x]?.bind (fun z => [SC.v (.int .i64 z)][m]?) = some d := hd;simp at hd
   room:=fun h=>(by cases h),off0:=fun h=>(by cases h),keys:=fun Φ hΦ=>(by cases hΦ),boxed:=fun b hb=>(by cases hb),fixd:=fun n hn=>(by cases hn),typd:=fun t ht=>(by cases ht) }
 |some ad =>
  by_cases hc0:0<c
  ·obtain⟨b,off,hab⟩:=ha hc0;have hab:ad=⟨b,off,none⟩:=Option.some.inj hab;subst hab;refine⟨⟨b,off,c,[]⟩,hc,fun _=>?_,fun ρf j hj=>?_⟩
   ·exact List.mem_cons_of_mem _ (List.mem_flatMap.2 ⟨_,List.mem_of_getElem? he,by rw[aN5 hc0];simp⟩)
   ·refine⟨⟨some ⟨b,off,none⟩,by rw[hj];rfl,by rw[hj];simpa using hl,fun _=>by simp[Jr,hj]⟩, ?_⟩
    exact {
     wf := by rw[hj];exact hl
     at_:=fun x m d hd=>by
      rw[arr_cell?]at hd;obtain⟨y,hy,hd⟩:=Option.bind_eq_some_iff.1 hd;have hd:[SC.v (.int .i64 y)][m]? = some d:=hd;have hm:m=0:=by
       have:=(List.getElem?_eq_some_iff.1 hd).1;simp at this;exact this
      subst hm;have hd:SC.v (.int .i64 y)=d:=by simpa using hd
      subst hd;have hy:row[x]? = some y:=hy;obtain⟨hx,hxy⟩:=List.getElem?_eq_some_iff.1 hy;refine⟨.int .i64 y, ?_,rfl⟩;simp only[Jr,hj];show w.cell? ⟨b,off+(x*1+0),none⟩=_;rw[Nat.mul_one,Nat.add_zero,hcell x hx b off rfl,hxy]
     room:=fun h=>(by cases h),off0:=fun h=>(by cases h),keys:=fun Φ hΦ=>(by cases hΦ),boxed:=fun b hb=>(by cases hb),fixd:=fun n hn=>(by cases hn),typd:=fun t ht=>(by cases ht) }
  ·have hc0:c=0:=by omega
   subst hc0;have h0:row=[]:=List.length_eq_zero_iff.1 (by omega);subst h0;refine⟨⟨(ρ k).blk,0,0,[]⟩,hc,fun h=>absurd h (by simp),fun ρf j hj=>?_⟩;refine⟨⟨some ad,by rw[hj];rfl,by rw[hj];simp,fun h=>by rw[hj]at h;exact absurd h (by simp)⟩, ?_⟩
   exact {
    wf := Nat.zero_le _, at_ := fun x m d hd => by rw[arr_cell?]at hd;have hd : ([] : List Int)[x]?.bind (fun z => [SC.v (.int .i64 z)][m]?) = some d := hd;simp at hd
    room:=fun h=>(by cases h),off0:=fun h=>(by cases h),keys:=fun Φ hΦ=>(by cases hΦ),boxed:=fun b hb=>(by cases hb),fixd:=fun n hn=>(by cases hn),typd:=fun t ht=>(by cases ht) }
theorem bE3{P:Program}{f:FuncId}{num:Int}{row:List Int}{r:SV}{post:Je}(T:Triple P f [iv .i64 num, .c (.s 0 0 row.length 1)] [(0,false, .arr (Yn row))] 1 r post)
 {ρ:Jn} {w:World} {k i:Nat} {rows:List (List Int)} {own:Bool} (h:SatO ρ w k own (.box (KE rows))) (hval:0<(SO.box (KE rows)).room (ρ k)→∀b∈(SO.box (KE rows)).fp (ρ k),b<w.heap.size) (hi:rows[i]? = some row)
 {vals:Array Value} (hv:YR ρ [iv .i64 num, .c (.ghost k i)] vals.toList) :
 ∃ρf:Jn,Calls P f vals w fun e w'=>∃ρ' v,e=.returned v∧r.rel ρ' v∧(∀k,k<1→ρ' k=ρf k)∧SatH w [] ρ' post w':=by
 generalize hvl:vals.toList=vl at hv
 match vl,hv with
 | [v0,v1],hv =>
  obtain⟨h0,h1,_⟩:=hv;obtain⟨rr,hroom,hin,hop⟩:=cn1 h hi h1;refine⟨fun _=>rr, ?_⟩;obtain⟨g1,g2⟩:=hop (fun _=>rr) 0 rfl;have hpos:0<(SO.arr (Yn row)).room rr→0<rr.cap:=fun h=>Nat.pos_of_ne_zero fun h0=>by
   have h:0<rr.cap*1:=h;omega
  have hS:SatH w [] (fun _=>rr) [(0,false,SO.arr (Yn row))] w :=
   {
    frm:=Frm.refl _ _
    reg:=fun k own o hk=>by
     rw[Jh]at hk;by_cases hk0:k=0
     ·rw[if_pos hk0]at hk;cases hk;subst hk0;exact g2
     ·rw[if_neg hk0]at hk;cases hk
    apart:=fun k k' o own' o' _ hk=>by
     rw[Jh]at hk;by_cases hk0:k=0
     ·rw[if_pos hk0]at hk;cases hk
     ·rw[if_neg hk0]at hk;cases hk
    fresh:=fun k o hk=>by
     rw[Jh]at hk;by_cases hk0:k=0
     ·rw[if_pos hk0]at hk;cases hk
     ·rw[if_neg hk0]at hk;cases hk
    valid:=fun k own o hk hr b hb=>by
     rw[Jh]at hk;by_cases hk0:k=0
     ·rw[if_pos hk0]at hk;cases hk;have hb:b∈[rr.blk]:=hb;rw[List.mem_singleton.1 hb];exact hval hroom _ (hin (hpos hr))
     ·rw[if_neg hk0]at hk;cases hk }
  have:=T.h (fun _=>rr) w vals (by rw[hvl];exact⟨h0,g1,trivial⟩) hS;intro cs;obtain⟨e,w',fr,⟨ρ',v,hb,he,hrel,hS'⟩,hrest⟩:=this cs;exact⟨e,w',fr,⟨ρ',v,he,hrel,hb,hS'⟩,hrest⟩
end Go.Proofs
