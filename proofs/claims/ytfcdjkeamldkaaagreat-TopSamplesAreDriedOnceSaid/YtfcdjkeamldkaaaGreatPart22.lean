/-
  A part of the proof that a law answers true: lemmas of a symbolic walk, plain functions, or contracts of the functions walked (EK, EL, EM, EN, EO, EP). Conditions: none.
-/
import Derived.Test.YtfcdjkeamldkaaaGreatPart21
set_option maxRecDepth 100000
set_option linter.unusedVariables false
set_option linter.unusedSimpArgs false
namespace Go.Proofs
open Go.Sx
theorem cx1(v:Wv)(hd:Yk 5 v.d.known)(k:Ky) :
 Triple Tryz.prog 19 [.c (.p 0 0 0 0),Gm k] (XS v++Yz) 7 (.tup [.inr (UE (YZ v.d v.now k)), .inl (.v (.bool (v.d.has k)))]) (XN 7 v (YK v.d v.now) v.puts):=by
 refine Jc Ja Tryz.func19 rfl Tryz.call19 rfl ?_;intro ρ w hH;conv=>whnf
 refine Jb (cD5 v.d hd v.now k) rfl rfl ?_;conv=>whnf
 refine cs ?_;conv=>whnf
 exact cl
theorem cx2:Triple Tryz.prog 166 [iv .u64 0] [] 0 (iv .i64 0) []:=by
 refine Jc Ja Tryz.func166 rfl Tryz.call166 rfl ?_;intro ρ w hH;conv=>whnf
 repeat ((first|refine qT fun hc=>?_|refine qF fun hc=>?_);conv=>whnf)
 refine⟨0,by decide, ?_⟩;conv=>whnf
 refine bN6 Ja rfl rfl rfl rfl 0 rfl 0 (by kernel_rfl) ?_;conv=>whnf
 refine⟨0,by decide, ?_⟩;conv=>whnf
 refine⟨0,by decide, ?_⟩;conv=>whnf
 exact cl
theorem cI7:Triple Tryz.prog 113 [iv .u64 0] [] 0 (iv .i64 0) []:=by
 refine Jc Ja Tryz.func113 rfl Tryz.call113 rfl ?_;intro ρ w hH;conv=>whnf
 repeat ((first|refine qT fun hc=>?_|refine qF fun hc=>?_);conv=>whnf)
 refine Jb cx2 rfl rfl ?_;conv=>whnf
 refine cs ?_;conv=>whnf
 exact cl
theorem bY7:Triple Tryz.prog 157 [.c (.v KJ),iv .i64 0,iv .i64 0, .c (.f 58 [])] [] 0 (.tup []) []:=by
 refine Jc Ja Tryz.func157 rfl Tryz.call157 rfl ?_;intro ρ w hH;conv=>whnf
 refine⟨1,by decide, ?_⟩;conv=>whnf
 refine Jz Ja (G:=Unit) 0 [] (fun _=>[(8,iv .i64 1)]) (fun _=>[]) (fun _=>True) (fun _=>0) ?_;conv=>whnf
 refine⟨⟨(),trivial, ?_⟩, ?_⟩
 ·conv=>whnf
  exact cl
 intro _ _ ρ1 t1 hρ1;conv=>whnf
 repeat ((first|refine qT fun hc=>?_|refine qF fun hc=>?_);conv=>whnf)
 exact cl
theorem cI8:Triple Tryz.prog 112 [.c (.v KJ),iv .i64 0,iv .i64 0,iv .i64 0, .c (.f 58 [])] [] 0 (.tup []) []:=by
 refine Jc Ja Tryz.func112 rfl Tryz.call112 rfl ?_;intro ρ w hH;conv=>whnf
 refine Jz Ja (G:=Unit) 0 [] (fun _=>[(1,iv .i64 0),(2,iv .i64 0),(3,iv .i64 0),(10,bv true),(11,bv true)]) (fun _=>[]) (fun _=>True) (fun _=>0) ?_;conv=>whnf
 refine⟨⟨(),trivial, ?_⟩, ?_⟩
 ·conv=>whnf
  exact cl
 intro _ _ ρ1 t1 hρ1;conv=>whnf
 refine⟨0,by decide, ?_⟩;conv=>whnf
 repeat ((first|refine qT fun hc=>?_|refine qF fun hc=>?_);conv=>whnf)
 refine Jb bY7 rfl rfl ?_;conv=>whnf
 refine cs ?_;conv=>whnf
 exact cl
theorem ck8:Triple Tryz.prog 57 [.c (.v KJ), .c (.f 58 [])] [] 0 (.tup []) []:=by
 refine Jc Ja Tryz.func57 rfl Tryz.call57 rfl ?_;intro ρ w hH;conv=>whnf
 refine⟨0,by decide, ?_⟩;conv=>whnf
 refine Jb cI7 rfl rfl ?_;conv=>whnf
 refine cs ?_;conv=>whnf
 refine Jb cI8 rfl rfl ?_;conv=>whnf
 refine cs ?_;conv=>whnf
 exact cl
theorem cx3(v:Wv)(hv:∀y∈v.puts.es,y.2.1=[1]) :
 Triple Tryz.prog 18 [.c (.p 0 0 0 0)] (XS v++Yz) 7 (.c (.v KJ)) (XN 7 v v.d v.puts):=by
 refine Jc Ja Tryz.func18 rfl Tryz.call18 rfl ?_;intro ρ w hH;conv=>whnf
 refine bz8 (n:=2) (vs:=false) (M:=v.puts) Ja rfl rfl rfl (by show 4<7;decide) rfl ?_ (by show 7≤7;decide);conv=>whnf
 refine Jz Ja (G:=Nat) 0 [] (fun _=>[(3, .c (.v KJ))]) (fun m=>[(7,true,itO (ρ 4).blk false v.puts m)]) (fun _=>True) (fun m=>m) ?_;conv=>whnf
 refine⟨⟨v.puts.es.length,trivial, ?_⟩, ?_⟩
 ·conv=>whnf
  exact cl
 intro m _ ρ1 t1 hρ1;conv=>whnf
 cases m with
 |zero =>
  refine bt7 (n:=2) (vs:=false) (M:=v.puts) (kx:=4) rfl rfl (by show 4<8;decide) (congrArg Rg.blk (hρ1 4 (by show 4<7;decide)).symm) rfl rfl ?_;conv=>whnf
  repeat ((first|refine qT fun hc=>?_|refine qF fun hc=>?_);conv=>whnf)
  refine Jb ck8 rfl rfl ?_;conv=>whnf
  refine cs ?_;conv=>whnf
  exact cl
 |succ m =>
  refine bz9 (n:=2) (vs:=false) (M:=v.puts) (kx:=4) rfl rfl (by show 4<8;decide) (congrArg Rg.blk (hρ1 4 (by show 4<7;decide)).symm) rfl rfl ?_;conv=>whnf
  repeat ((first|refine qT fun hc=>?_|refine qF fun hc=>?_);conv=>whnf)
  refine bA0 Ja hv rfl rfl rfl rfl rfl (by show 4<8;decide) (congrArg Rg.blk (hρ1 4 (by show 4<7;decide)).symm) rfl rfl ?_;intro ka kb;conv=>whnf
  repeat ((first|refine qT fun hc=>?_|refine qF fun hc=>?_);conv=>whnf)
  refine⟨m,trivial,Nat.lt_succ_self m, ?_⟩;conv=>whnf
  refine⟨rfl, ?_⟩;conv=>whnf
  exact cl
def UO(kb n:Nat):Arr:=⟨Nat,1,fun i=>[.gp kb i],[kb],fun _=>rfl,(by
 intro x c hc j hj
 rw[List.mem_singleton.1 hc]at hj
 simpa [SC.nms] using hj),List.range n,none,none⟩
theorem VW{σ:Nat→Nat}{k k' n:Nat}(h:σ k=k'):UO k' n=(UO k n).ren σ:=by
 subst h;exact Un (funext fun x=>rfl) rfl
structure Sd where
 num:Int
 size:List Int
 ovs:List (List Ky)
 did:Mp
 grants:Mp
 goes:Mp
def Sd.stn(D:Sd):Stn:=⟨D.num,D.did,D.grants,D.goes⟩
abbrev sdC(D:Sd):List SC:=[.s 1 0 D.size.length 1, .s 2 0 D.ovs.length 1, .m 3, .v (.int .i64 D.num), .m 4, .m 5]
def VU(D:Sd)(ws:List Value):Nat→Option SO
 |0=>some (.cells (sdC D))
 |1=>some (.arr (Yn D.size))
 |2=>some (.arr (ah0 ws))
 |3=>some (Jw true 2 D.did)
 |4=>some (Jw false 2 D.grants)
 |5=>some (Jw false 2 D.goes)
 |k+6=>(D.ovs[k]?).map fun ov=>.arr (Vn ov)
def Wx(r:Rg)(o:SO):Option Nat:=if 0<o.room r then some r.blk else none
theorem ba9{r:Rg}{o:SO}{b:Nat}(h:Wx r o=some b):0<o.room r∧b=r.blk:=by
 unfold Wx at h;split at h
 ·rename_i hr
  exact⟨hr,(Option.some.inj h).symm⟩
 ·cases h
theorem Gp{r:Rg}{o:SO}(h:0<o.room r):Wx r o=some r.blk:=by
 unfold Wx;rw[if_pos h]
theorem aw6{D:Sd}{ws:List Value}{k:Nat}{o:SO}(h:VU D ws k=some o):(∀r,o.fp r=[r.blk])∧(∀b,o≠.box b)∧k<6+D.ovs.length:=by
 match k,h with
 |0,h=>cases h;exact⟨fun _=>rfl,fun _=>by simp,by omega⟩
 |1,h=>cases h;exact⟨fun _=>rfl,fun _=>by simp,by omega⟩
 |2,h=>cases h;exact⟨fun _=>rfl,fun _=>by simp,by omega⟩
 |3,h=>cases h;exact⟨fun _=>rfl,fun _=>by simp[Jw],by omega⟩
 |4,h=>cases h;exact⟨fun _=>rfl,fun _=>by simp[Jw],by omega⟩
 |5,h=>cases h;exact⟨fun _=>rfl,fun _=>by simp[Jw],by omega⟩
 |k+6,h =>
  obtain⟨ov,hov,rfl⟩:=Option.map_eq_some_iff.1 h;have:=(List.getElem?_eq_some_iff.1 hov).1;exact⟨fun _=>rfl,fun _=>by simp,by omega⟩
structure WsOK (ρ:Jn) (D:Sd) (ws:List Value):Prop where
 len:ws.length=D.ovs.length
 rel:∀(j:Nat) ov,D.ovs[j]? = some ov→∃v,ws[j]? = some v∧(SC.s (6+j) 0 ov.length 2).rel ρ v
structure StAt (ρ:Jn) (w:World) (D:Sd) (ws:List Value):Prop where
 reg:∀k o,VU D ws k=some o→SatO ρ w k true o
 ws:WsOK ρ D ws
structure StsAt (Ds:List Sd) (ρs:Nat→Jn) (wss:Nat→List Value) (w:World):Prop where
 at_:∀i D,Ds[i]? = some D→StAt (ρs i) w D (wss i)
 sep:∀i D k o i' D' k' o' b,Ds[i]? = some D→VU D (wss i) k=some o→Ds[i']? = some D'→VU D' (wss i') k'=some o'→Wx (ρs i k) o=some b→Wx (ρs i' k') o'=some b→i=i'∧k=k'
structure StB (Ds:List Sd) (ρs:Nat→Jn) (wss:Nat→List Value) (r:Rg) (w:World):Prop where
 sts:StsAt Ds ρs wss w
 ptr:∀i D,Ds[i]? = some D→∃l c,r.ext[i]? = some (Value.slice (some (Jr (ρs i) 0 0)) l c)
 foot:∀i D k o b,Ds[i]? = some D→VU D (wss i) k=some o→Wx (ρs i k) o=some b→b∈r.more∧0<r.cap
theorem StAt.world{ρ:Jn}{w w':World}{D:Sd}{ws:List Value}(h:StAt ρ w D ws)(hb:∀k o,VU D ws k=some o→0<o.room (ρ k)→w'.heap[(ρ k).blk]? = w.heap[(ρ k).blk]?):StAt ρ w' D ws where
 reg k o ho:=(h.reg k o ho).world fun hr b hbb=>by
  rw[(aw6 ho).1]at hbb;rw[List.mem_singleton.1 hbb];exact hb k o ho hr
 ws:=h.ws
def Wm(Ds:List Sd):Bx where
 Φ r w:=∃ρs wss,StB Ds ρs wss r w
 loc r w w' heq h:=by
  obtain⟨ρs,wss,h⟩:=h
  refine⟨ρs,wss,⟨fun i D hi=>(h.sts.at_ i D hi).world fun k o ho hr=>?_,h.sts.sep⟩,h.ptr,h.foot⟩
  obtain⟨h1,h2⟩:=h.foot i D k o _ hi ho (Gp hr)
  exact heq h2 _ (.inr h1)
def bN7(D:Sd)(ρ:Jn)(ws:List Value):List Nat:=(List.range (6+D.ovs.length)).filterMap fun k=>(VU D ws k).bind (Wx (ρ k))
theorem bi5{D:Sd}{ρ:Jn}{ws:List Value}{b:Nat}:b∈bN7 D ρ ws↔∃k o,VU D ws k=some o∧Wx (ρ k) o=some b:=by
 unfold bN7;rw[List.mem_filterMap];constructor
 ·rintro ⟨k,_,h⟩
  obtain⟨o,h1,h2⟩:=Option.bind_eq_some_iff.1 h;exact⟨k,o,h1,h2⟩
 ·rintro ⟨k,o,h1,h2⟩
  exact⟨k,List.mem_range.2 (aw6 h1).2.2,by rw[h1];exact h2⟩
def ck9(b:Nat):Value:=.slice (some ⟨b,0,none⟩) 0 1
def ah1(Ds:List Sd)(ρs:Nat→Jn)(wss:Nat→List Value):Rg :=
 ⟨(ρs 0 0).blk,0,1,(List.range Ds.length).map (fun i=>Value.slice (some (Jr (ρs i) 0 0)) 0 1)++((List.range Ds.length).flatMap fun i=>match Ds[i]? with
  |some D=>bN7 D (ρs i) (wss i)
  |none=>[]).map ck9⟩
theorem bt8(D:Sd)(ws:List Value)(r:Rg):Wx r (SO.cells (sdC D))=some r.blk:=Gp (by show 0<6;decide)
theorem bt9{Ds:List Sd}{ρs:Nat→Jn}{wss:Nat→List Value}{b:Nat}:b∈(ah1 Ds ρs wss).more↔∃i D k o,Ds[i]? = some D∧VU D (wss i) k=some o∧Wx (ρs i k) o=some b:=by
 unfold ah1 Rg.more;rw[List.flatMap_append,List.mem_append,List.mem_flatMap,List.mem_flatMap];constructor
 ·rintro (⟨v,hv,hb⟩|⟨v,hv,hb⟩)
  ·obtain⟨i,hi,rfl⟩:=List.mem_map.1 hv;have hi:=List.mem_range.1 hi;have hb:b∈[(Jr (ρs i) 0 0).block]:=hb;rw[List.mem_singleton.1 hb];exact⟨i,Ds[i],0,_,List.getElem?_eq_getElem hi,rfl,bt8 _ [] _⟩
  ·obtain⟨c,hc,rfl⟩:=List.mem_map.1 hv;have hb:b∈[c]:=hb;rw[List.mem_singleton.1 hb];obtain⟨i,hi,hc⟩:=List.mem_flatMap.1 hc;have hi:=List.mem_range.1 hi;rw[List.getElem?_eq_getElem hi]at hc;obtain⟨k,o,h1,h2⟩:=bi5.1 hc;exact⟨i,Ds[i],k,o,List.getElem?_eq_getElem hi,h1,h2⟩
 ·rintro ⟨i,D,k,o,hi,h1,h2⟩
  refine .inr ⟨ck9 b,List.mem_map.2 ⟨b,List.mem_flatMap.2 ⟨i,List.mem_range.2 (List.getElem?_eq_some_iff.1 hi).1, ?_⟩,rfl⟩,by simp[ck9,bm8]⟩;rw[hi];exact bi5.2 ⟨k,o,h1,h2⟩
theorem StsAt.box{Ds:List Sd}{ρs:Nat→Jn}{wss:Nat→List Value}{w:World}(h:StsAt Ds ρs wss w):StB Ds ρs wss (ah1 Ds ρs wss) w where
 sts:=h
 ptr i D hi:=by
  have hl:=(List.getElem?_eq_some_iff.1 hi).1;refine⟨0,1, ?_⟩;unfold ah1;rw[List.getElem?_append_left (by simpa using hl),List.getElem?_map,List.getElem?_range hl];rfl
 foot i D k o b hi h1 h2:=⟨bt9.2 ⟨i,D,k,o,hi,h1,h2⟩,by unfold ah1;exact Nat.one_pos⟩
theorem bE0{Ds:List Sd}{ρs:Nat→Jn}{wss:Nat→List Value}(hne:0<Ds.length){b:Nat}{bx:Bx}(h:b∈(SO.box bx).fp (ah1 Ds ρs wss)):∃i D k o,Ds[i]? = some D∧VU D (wss i) k=some o∧Wx (ρs i k) o=some b:=by
 have h:b∈(ah1 Ds ρs wss).blk::(ah1 Ds ρs wss).more:=h;rcases List.mem_cons.1 h with h|h
 ·refine⟨0,Ds[0],0,_,List.getElem?_eq_getElem hne,rfl, ?_⟩;rw[bt8 _ []];exact congrArg some h.symm
 ·exact bt9.1 h
theorem SatO.mv{ρ ρ':Jn}{w:World}{k k':Nat}{own:Bool}{o o':SO}(h:SatO ρ w k own o)(hk:ρ' k'=ρ k)(hsz:o'.sz=o.sz)(hwf:o.wf (ρ k)→o'.wf (ρ k))
 (hc:∀i j c',o'.cell? i j=some c'→∃c,o.cell? i j=some c∧∀v,c.rel ρ v→c'.rel ρ' v) (hroom:o'.room (ρ k)≤o.room (ρ k))
 (hraw:∀Φ',o'=.raw Φ'→∃Φ,o=.raw Φ∧∀x,Φ x→Φ' x) (hraw':∀Φ,o=.raw Φ→∃Φ',o'=.raw Φ') (hb:∀b,o≠.box b) (hb':∀b,o'≠.box b) (hfx:o'.fx=none) (hty:o'.ty=none):SatO ρ' w k' own o' where
 wf:=by rw[hk];exact hwf h.wf
 at_ i j c' hc':=by
  obtain⟨c,h1,h2⟩:=hc i j c' hc';obtain⟨v,hv,hr⟩:=h.at_ i j c h1;exact⟨v,by simp only[Jr,hk,hsz]at *;exact hv,h2 v hr⟩
 room ho hm hx n hn:=by
  rw[hk]at hn;have:=h.room ho (fun Φ hΦ=>by obtain⟨Φ',h'⟩:=hraw' Φ hΦ;exact hm Φ' h') hb n (Nat.lt_of_lt_of_le hn hroom);simp only[Jr,hk]at *;exact this
 off0 ho:=by rw[hk];exact h.off0 ho
 keys Φ' hΦ':=by
  obtain⟨Φ,h1,h2⟩:=hraw Φ' hΦ';obtain⟨x,hx,hp⟩:=h.keys Φ h1;exact⟨x,by rw[hk];exact hx,h2 x hp⟩
 boxed b h:=absurd h (hb' b)
 fixd n hn:=by rw[hfx]at hn;cases hn
 typd t ht:=by rw[hty]at ht;cases ht
structure Wb where
 d:Dsk
 now:Int
 mail:List Slp
 sent:Int
 puts:Mp
 sts:List Sd
def Wb.wv(b:Wb)(os:List (Option Value)):Wv:=⟨b.d,os,b.now,b.mail,b.sent,b.puts⟩
abbrev wbO(n:Nat)(b:Wb):SO:=.cells [.p 1 0 0 0, .s 2 0 b.sts.length 1, .v (.int .i64 b.now), .s n 0 b.mail.length 7, .v (.int .i64 b.sent), .m 4]
abbrev KD(b:Wb):Je:=[(0,true,wbO 3 b),(1,true,VZ 5 b.d),(2,true, .arr (UO 6 b.sts.length)),(3,true, .arr (Xw b.mail)),(4,true,Jw false 2 b.puts),(5,true,Jw true 2 b.d.known),(6,true, .box (Wm b.sts))]
abbrev ar5(b:Wb):Je:=[(0,true,wbO 7 b),(7,true, .arr (Xw b.mail)),(1,true,VZ 5 b.d),(4,true,Jw false 2 b.puts),(5,true,Jw true 2 b.d.known),(2,true, .arr (UO 8 b.sts.length)),(8,true, .box (Wm b.sts))]
theorem aS0{b:Wb}{os:List (Option Value)}(hl:os.length=b.sts.length){k:Nat}(h2:k≠2)(h6:k<6):Sx.look (XS (b.wv os)) k=Sx.look (KD b) k:=by
 have h6':k≠6:=by omega
 have e:wvO (b.wv os)=wbO 3 b:=by
  show SO.cells _=SO.cells _;rw[show(b.wv os).os.length=b.sts.length from hl];rfl
 simp only[XS,wvX,Jh,e,if_neg h2,if_neg h6'];rfl
theorem bN8{v:Wv}:Sx.look (XS v) 2=some (false, .arr (aPt 6 v.os)):=rfl
theorem bA1{v:Wv}{k:Nat}(h:6≤k):Sx.look (XS v) k=none:=by
 simp only[XS,wvX,Jh];rw[if_neg (by omega),if_neg (by omega),if_neg (by omega),if_neg (by omega),if_neg (by omega),if_neg (by omega)];rfl
theorem Wn{b:Wb}:Sx.look (KD b) 2=some (true, .arr (UO 6 b.sts.length)):=rfl
theorem Wo{b:Wb}:Sx.look (KD b) 6=some (true, .box (Wm b.sts)):=rfl
theorem bY8{b:Wb}{k:Nat}{own:Bool}{o:SO}(h2:k≠2)(h6:k≠6)(h:Sx.look (KD b) k=some (own,o)):own=true∧k<6∧(∀n,o.uses [n]=true→n<6)∧∀r,o.fp r=[r.blk]:=by
 simp only[Jh,if_neg h2,if_neg h6]at h;by_cases h0:k=0
 ·rw[if_pos h0]at h;cases h;refine⟨rfl,by omega,fun n hn=>?_,fun _=>rfl⟩;have hn:XP [n] [.p 1 0 0 0, .s 2 0 b.sts.length 1, .v (.int .i64 b.now), .s 3 0 b.mail.length 7, .v (.int .i64 b.sent), .m 4]=true:=hn;obtain⟨c,hc,hu⟩:=Qo.1 hn;obtain⟨j,hj,hjn⟩:=SC.uses_iff.1 hu;simp at hjn;subst hjn;simp at hc;rcases hc with rfl|rfl|rfl|rfl|rfl|rfl <;> simp[SC.nms]at hj <;> omega
 rw[if_neg h0]at h;by_cases h1:k=1
 ·rw[if_pos h1]at h;cases h;refine⟨rfl,by omega,fun n hn=>?_,fun _=>rfl⟩;have hn:XP [n] [.v (.int .i64 b.d.lease), .v (.int .i64 b.d.time), .v (.int .i64 b.d.last), .m 5]=true:=hn;obtain⟨c,hc,hu⟩:=Qo.1 hn;obtain⟨j,hj,hjn⟩:=SC.uses_iff.1 hu;simp at hjn;subst hjn;simp at hc;rcases hc with rfl|rfl|rfl|rfl <;> simp[SC.nms]at hj <;> omega
 rw[if_neg h1]at h;by_cases h3:k=3
 ·rw[if_pos h3]at h;cases h;exact⟨rfl,by omega,(fun n hn=>by cases hn),fun _=>rfl⟩
 rw[if_neg h3]at h;by_cases h4:k=4
 ·rw[if_pos h4]at h;cases h;exact⟨rfl,by omega,(fun n hn=>by cases hn),fun _=>rfl⟩
 rw[if_neg h4]at h;by_cases h5:k=5
 ·rw[if_pos h5]at h;cases h;exact⟨rfl,by omega,(fun n hn=>by cases hn),fun _=>rfl⟩
 rw[if_neg h5]at h;cases h
def Gw(ρs:Nat→Jn)(n i:Nat):List (Option Value):=((List.range n).map fun j=>some (Value.pointer (some (Jr (ρs j) 0 0)))).set i none
theorem az2(ρs:Nat→Jn)(n i:Nat):(Gw ρs n i).length=n:=by simp[Gw]
theorem bN9{ρs:Nat→Jn}{n i:Nat}(h:i<n):(Gw ρs n i)[i]? = some none:=by
 unfold Gw;rw[List.getElem?_set_self (by simpa using h)]
theorem bY9{ρs:Nat→Jn}{n i j:Nat}(h:j<n)(hij:j≠i):(Gw ρs n i)[j]? = some (some (Value.pointer (some (Jr (ρs j) 0 0)))):=by
 unfold Gw;rw[List.getElem?_set_ne (fun hh=>hij hh.symm),List.getElem?_map,List.getElem?_range h];rfl
theorem cs5{ρs:Nat→Jn}{n i:Nat}(j:Nat)(h:(Gw ρs n i)[j]? = some none):j=i:=by
 by_cases hij:j=i
 ·exact hij
 ·have hj:j<n:=by
   have:=(List.getElem?_eq_some_iff.1 h).1;rwa[az2]at this
  rw[bY9 hj hij]at h;cases h
structure ActSt (D D':Sd) (np:Nat) (stf stp:List Value→Je) (σ:Nat→Nat) (τ:Nat→Option Nat):Prop where
 np6:6<np
 σ6:σ 6=0
 τ0:τ 0=none∨τ 0=some 6
 uq:∀ws k own o,(k,own,o)∈stf ws→Sx.look (stf ws) k=some (own,o)
 pre:∀(ρ0 ρf:Jn) (w:World) (ws:List Value),StAt ρ0 w D ws→(∀k,6≤k→k<np→ρf k=ρ0 (σ k))→∀k own o,Sx.look (stf ws) k=some (own,o) →
  6≤k∧k<np∧SatO ρf w k own o∧(∃q,VU D ws (σ k)=some q∧∀r,0<o.room r→0<q.room r)∧(∀r,o.fp r=[r.blk])∧(own=true→∃p,τ (σ k)=some p)
 inj:∀ws k k',(Sx.look (stf ws) k).isSome=true→(Sx.look (stf ws) k').isSome=true→σ k=σ k'→k=k'
 τi:∀k k' p,τ k=some p→τ k'=some p→k=k'
 hi:∀ws p x,Sx.look (stp ws) p=some x→6≤p∧p≠np∧x.1=true
 post:∀(ρ0 ρ' ρ1:Jn) (w w':World) (ws:List Value),StAt ρ0 w D ws→(∀k,6≤k→k<np→ρ' k=ρ0 (σ k))→(∀k p,τ k=some p→ρ1 k=ρ' p)→(∀k,τ k=none→ρ1 k=ρ0 k)→(∀p own o,Sx.look (stp ws) p=some (own,o)→SatO ρ' w' p own o) →
  ∃ws',WsOK ρ1 D' ws'∧∀k o',VU D' ws' k=some o' →
   (τ k=none∧VU D ws k=some o'∧∀n,o'.uses [n]=true→ρ1 n=ρ0 n) ∨
   (∃p o,τ k=some p∧Sx.look (stp ws) p=some (true,o)∧SatO ρ1 w' k true o'∧(∀r,0<o'.room r→0<o.room r)∧∀r,o.fp r=[r.blk])
theorem bu0{b:Wb}{k:Nat}{own:Bool}{o:SO}(h:Sx.look (ar5 b) k=some (own,o)):own=true ∧
 ((k=0∧o=wbO 7 b)∨(k=7∧o=.arr (Xw b.mail))∨(k=1∧o=VZ 5 b.d)∨(k=4∧o=Jw false 2 b.puts)∨(k=5∧o=Jw true 2 b.d.known)∨(k=2∧o=.arr (UO 8 b.sts.length))∨(k=8∧o=.box (Wm b.sts))):=by
 simp only[Jh]at h;by_cases h0:k=0
 ·rw[if_pos h0]at h;cases h;exact⟨rfl, .inl ⟨h0,rfl⟩⟩
 rw[if_neg h0]at h;by_cases h7:k=7
 ·rw[if_pos h7]at h;cases h;exact⟨rfl, .inr (.inl ⟨h7,rfl⟩)⟩
 rw[if_neg h7]at h;by_cases h1:k=1
 ·rw[if_pos h1]at h;cases h;exact⟨rfl, .inr (.inr (.inl ⟨h1,rfl⟩))⟩
 rw[if_neg h1]at h;by_cases h4:k=4
 ·rw[if_pos h4]at h;cases h;exact⟨rfl, .inr (.inr (.inr (.inl ⟨h4,rfl⟩)))⟩
 rw[if_neg h4]at h;by_cases h5:k=5
 ·rw[if_pos h5]at h;cases h;exact⟨rfl, .inr (.inr (.inr (.inr (.inl ⟨h5,rfl⟩))))⟩
 rw[if_neg h5]at h;by_cases h2:k=2
 ·rw[if_pos h2]at h;cases h;exact⟨rfl, .inr (.inr (.inr (.inr (.inr (.inl ⟨h2,rfl⟩)))))⟩
 rw[if_neg h2]at h;by_cases h8:k=8
 ·rw[if_pos h8]at h;cases h;exact⟨rfl, .inr (.inr (.inr (.inr (.inr (.inr ⟨h8,rfl⟩)))))⟩
 rw[if_neg h8]at h;cases h
theorem aM0{ρ ρ':Jn}:∀ {l:List SV} {vs:List Value},(∀s∈l,∀k,s.uses [k]=true→k<6)→(∀k,k<6→ρ' k=ρ k)→YR ρ l vs→YR ρ' l vs
 | [],[],_,_,_=>trivial
 | [],_::_,_,_,h=>h.elim
 |_::_,[],_,_,h=>h.elim
 |s::l,v::vs,hu,hρ,h=>⟨SV.rel_agree (fun k hk=>hρ k (hu s (by simp) k hk)) h.1,aM0 (fun s hs=>hu s (by simp[hs])) hρ h.2⟩
theorem cE2{b:Wb}{i:Nat}{D D':Sd}{np:Nat}{stf stp:List Value→Je}{σ:Nat→Nat}{τ:Nat→Option Nat}(A:ActSt D D' np stf stp σ τ)(hi:b.sts[i]? = some D){ρ:Jn}{w:World}(hH:SatH w (Xi ρ (KD b)) ρ (KD b) w)
 {ρs:Nat→Jn} {wss:Nat→List Value} (hB:StB b.sts ρs wss (ρ 6) w) {ρf:Jn} (hlo:∀k,k<6→ρf k=ρ k) (hhi:∀k,6≤k→ρf k=ρs i (σ k)) :
 SatH w (Xi ρf (XS (b.wv (Gw ρs b.sts.length i))++stf (wss i))) ρf (XS (b.wv (Gw ρs b.sts.length i))++stf (wss i)) w:=by
 have hil:i<b.sts.length:=(List.getElem?_eq_some_iff.1 hi).1;have hol:=az2 ρs b.sts.length i;have hst:=hB.sts.at_ i D hi;have hpre:=A.pre (ρs i) ρf w (wss i) hst (fun k h1 _=>hhi k h1)
 have hlook:∀k own o,Sx.look (XS (b.wv (Gw ρs b.sts.length i))++stf (wss i)) k=some (own,o) →
  (k=2∧own=false∧o=.arr (aPt 6 (Gw ρs b.sts.length i)))∨(k≠2∧k<6∧Sx.look (KD b) k=some (own,o))∨(6≤k∧Sx.look (stf (wss i)) k=some (own,o)):=by
  intro k own o hk;rw[Yi]at hk;by_cases h6:6≤k
  ·rw[bA1 h6]at hk;exact .inr (.inr ⟨h6,hk⟩)
  ·by_cases h2:k=2
   ·subst h2;rw[bN8]at hk;have hk:some (false,SO.arr (aPt 6 (Gw ρs b.sts.length i)))=some (own,o):=hk;cases hk;exact .inl ⟨rfl,rfl,rfl⟩
   ·rw[aS0 hol h2 (by omega)]at hk;cases hx:Sx.look (KD b) k with
    |some x=>rw[hx]at hk;exact .inr (.inl ⟨h2,by omega,hk⟩)
    |none =>
     rw[hx]at hk;have hk:Sx.look (stf (wss i)) k=some (own,o):=hk;have:=(hpre k own o hk).1;omega
 have h2:=hH.reg 2 true _ Wn;have hst2:∀k own o,Sx.look (stf (wss i)) k=some (own,o)→0<o.room (ρf k)→(ρf k).blk∈(ρ 6).more∧0<(ρ 6).cap:=by
  intro k own o hk hr;obtain⟨h1,_,_,⟨q,hq,hrr⟩,_,_⟩:=hpre k own o hk;have hr':=hrr _ hr;rw[hhi k h1]at hr' ⊢;exact hB.foot i D _ q _ hi hq (Gp hr')
 have hbx:∀c,c∈(ρ 6).more→c∈(SO.box (Wm b.sts)).fp (ρ 6):=fun c hc=>List.mem_cons_of_mem _ hc;have hcap:∀ {c},0<c→0<(SO.box (Wm b.sts)).room { (ρ 6)with cap:=c }:=fun h=>h;have hfp2:∀r,(SO.arr (aPt 6 (Gw ρs b.sts.length i))).fp r=[r.blk]:=fun _=>rfl;refine { frm:=Frm.refl _ _,reg:=?_,apart:=?_,fresh:=?_,valid:=?_ }
 ·intro k own o hk;rcases hlook k own o hk with ⟨rfl,rfl,rfl⟩|⟨hk2,hk6,hk⟩|⟨hk6,hk⟩
  ·refine SatO.mv (h2.less false) (hlo 2 (by omega)) rfl ?_ ?_ ?_ (fun _ h=>by cases h) (fun _ h=>by cases h) (fun _ h=>by cases h) (fun _ h=>by cases h) rfl rfl
   ·intro h;have h:(List.range b.sts.length).length≤(ρ 2).cap:=h;rw[List.length_range]at h;show(Gw ρs b.sts.length i).length≤(ρ 2).cap;rw[hol];exact h
   ·intro x j c' hc';rw[arr_cell?]at hc';obtain⟨y,hy,hc'⟩:=Option.bind_eq_some_iff.1 hc';have hc':[ptC 6 y][j]? = some c':=hc';have hj:j=0:=by
     have:=(List.getElem?_eq_some_iff.1 hc').1;simp at this;exact this
    subst hj;have hc':ptC 6 y=c':=by simpa using hc'
    have hy:(Gw ρs b.sts.length i)[x]? = some y:=hy;have hx:x<b.sts.length:=by
     have:=(List.getElem?_eq_some_iff.1 hy).1;rwa[hol]at this
    refine⟨.gp 6 x, ?_,fun v hv=>?_⟩
    ·rw[arr_cell?];show(List.range b.sts.length)[x]?.bind (fun i=>[SC.gp 6 i][0]?)=_;rw[List.getElem?_range hx];rfl
    ·simp only[SC.rel]at hv;obtain⟨a,l,c,rfl,he⟩:=hv;obtain⟨l',c'',he'⟩:=hB.ptr x _ (List.getElem?_eq_getElem hx);rw[he']at he;simp only[Option.some.injEq,Value.slice.injEq]at he;have ha:a=Jr (ρs x) 0 0:=he.1.symm;by_cases hxi:x=i
     ·subst hxi;rw[bN9 hil]at hy;cases hy;rw[←hc',ha];show Value.pointer _=Value.pointer (some (Jr ρf 6 (0*0+0)));simp only[Jr];rw[hhi 6 (Nat.le_refl _),A.σ6]
     ·rw[bY9 hx hxi]at hy;cases hy;rw[←hc',ha];rfl
   ·show(ρ 2).cap*1≤(ρ 2).cap*1;exact Nat.le_refl _
  ·obtain⟨_,_,hu,_⟩:=bY8 hk2 (by omega) hk;exact(hH.reg k own o hk).asg (hlo k hk6) (fun n hn=>hlo n (hu n hn))
  ·exact(hpre k own o hk).2.2.1
 ·intro k k' o own' o' hne hk hk' hr hr' c hc hc';rcases hlook k true o hk with ⟨_,hf,_⟩|⟨hk2,hk6,hk⟩|⟨hk6,hk⟩
  ·cases hf
  ·rw[hlo k hk6]at hr hc;rcases hlook k' own' o' hk' with ⟨rfl,rfl,rfl⟩|⟨hk2',hk6',hk'⟩|⟨hk6',hk'⟩
   ·rw[hlo 2 (by omega)]at hr' hc';exact hH.apart k 2 o true _ hne hk Wn hr (show 0<(ρ 2).cap*1 from hr') c hc hc'
   ·rw[hlo k' hk6']at hr' hc';exact hH.apart k k' o own' o' hne hk hk' hr hr' c hc hc'
   ·obtain⟨h1,h2⟩:=hst2 k' own' o' hk' hr';rw[(hpre k' own' o' hk').2.2.2.2.1]at hc';rw[List.mem_singleton.1 hc']at hc;exact hH.apart k 6 o true _ (by omega) hk Wo hr h2 _ hc (hbx _ h1)
  ·obtain⟨g1,g2⟩:=hst2 k true o hk hr;rw[(hpre k true o hk).2.2.2.2.1]at hc;rw[List.mem_singleton.1 hc]at hc';rcases hlook k' own' o' hk' with ⟨rfl,rfl,rfl⟩|⟨hk2',hk6',hk'⟩|⟨hk6',hk'⟩
   ·rw[hlo 2 (by omega)]at hr' hc';exact hH.apart 2 6 _ true _ (by omega) Wn Wo (show 0<(ρ 2).cap*1 from hr') g2 _ hc' (hbx _ g1)
   ·rw[hlo k' hk6']at hr' hc';have ht:=(bY8 hk2' (by omega) hk').1;subst ht;exact hH.apart k' 6 o' true _ (by omega) hk' Wo hr' g2 _ hc' (hbx _ g1)
   ·obtain⟨a1,_,_,⟨q,hq,hqr⟩,_,_⟩:=hpre k true o hk;obtain⟨b1,_,_,⟨q',hq',hqr'⟩,hfp',_⟩:=hpre k' own' o' hk';rw[hfp']at hc';have e:=List.mem_singleton.1 hc';have l1:=Gp (hqr _ hr);have l2:=Gp (hqr' _ hr');rw[←e]at l2;rw[hhi k a1]at l1 l2;rw[hhi k' b1]at l2;have hs:=(hB.sts.sep i D _ q i D _ q' _ hi hq hi hq' l1 l2).2;exact hne (A.inj _ k k' (by rw[hk];rfl) (by rw[hk'];rfl) hs)
 ·intro k o hk hr c hc;exact .inr (XZ.2 ⟨k,o,Qd hk,hr,hc⟩)
 ·intro k own o hk hr c hc;rcases hlook k own o hk with ⟨rfl,rfl,rfl⟩|⟨hk2,hk6,hk⟩|⟨hk6,hk⟩
  ·rw[hlo 2 (by omega)]at hr hc;exact hH.valid 2 true _ Wn (show 0<(ρ 2).cap*1 from hr) c hc
  ·rw[hlo k hk6]at hr hc;exact hH.valid k own o hk hr c hc
  ·obtain⟨g1,g2⟩:=hst2 k own o hk hr;rw[(hpre k own o hk).2.2.2.2.1]at hc;rw[List.mem_singleton.1 hc];exact hH.valid 6 true _ Wo g2 _ (hbx _ g1)
theorem cl3{np:Nat}(h6:6<np){W:Wv}{d:Dsk}{pu:Mp}{stp:Je}:Sx.look (XN np W d pu++stp) 0=some (true,bf4 np W)∧Sx.look (XN np W d pu++stp) np=some (true, .arr (Xw W.mail)) ∧
 Sx.look (XN np W d pu++stp) 1=some (true,VZ 5 d)∧Sx.look (XN np W d pu++stp) 4=some (true,Jw false 2 pu)∧Sx.look (XN np W d pu++stp) 5=some (true,Jw true 2 d.known) ∧
 ∀p,6≤p→p≠np→Sx.look (XN np W d pu++stp) p=Sx.look stp p:=by
 refine⟨rfl, ?_, ?_, ?_, ?_,fun p hp hpn=>?_⟩
 ·rw[Yi,XN,Jh,if_neg (by omega),Jh,if_pos rfl];rfl
 ·rw[Yi,XN,Jh,if_neg (by omega),Jh,if_neg (by omega),Jh,if_pos rfl];rfl
 ·rw[Yi,XN,Jh,if_neg (by omega),Jh,if_neg (by omega),Jh,if_neg (by omega),Jh,if_pos rfl];rfl
 ·rw[Yi,XN,Jh,if_neg (by omega),Jh,if_neg (by omega),Jh,if_neg (by omega),Jh,if_neg (by omega),Jh,if_pos rfl];rfl
 ·rw[Yi,XN,Jh,if_neg (by omega),Jh,if_neg (by omega),Jh,if_neg (by omega),Jh,if_neg (by omega),Jh,if_neg (by omega)];rfl
def σ7(np k:Nat):Nat:=if k=7 then np else k
theorem cl4{n:Nat}{b:Wb}{k:Nat}(h:(wbO n b).uses [k]=true):k=1∨k=2∨k=n∨k=4:=by
 have hn:XP [k] [.p 1 0 0 0, .s 2 0 b.sts.length 1, .v (.int .i64 b.now), .s n 0 b.mail.length 7, .v (.int .i64 b.sent), .m 4]=true:=h;obtain⟨c,hc,hu⟩:=Qo.1 hn;obtain⟨j,hj,hjn⟩:=SC.uses_iff.1 hu;simp at hjn;subst hjn;simp at hc;rcases hc with rfl|rfl|rfl|rfl|rfl|rfl <;> simp[SC.nms]at hj <;> omega
theorem bZ0{n:Nat}{d:Dsk}{k:Nat}(h:(VZ n d).uses [k]=true):k=n:=by
 have hn:XP [k] [.v (.int .i64 d.lease), .v (.int .i64 d.time), .v (.int .i64 d.last), .m n]=true:=h;obtain⟨c,hc,hu⟩:=Qo.1 hn;obtain⟨j,hj,hjn⟩:=SC.uses_iff.1 hu;simp at hjn;subst hjn;simp at hc;rcases hc with rfl|rfl|rfl|rfl <;> simp[SC.nms]at hj <;> omega
theorem cx4{b b':Wb}{i:Nat}{D D':Sd}{np:Nat}{stf stp:List Value→Je}{σ:Nat→Nat}{τ:Nat→Option Nat}(A:ActSt D D' np stf stp σ τ)(hi:b.sts[i]? = some D)(hb':b'.sts=b.sts.set i D')
 {ρ:Jn} {w:World} (hH:SatH w (Xi ρ (KD b)) ρ (KD b) w) {ρs:Nat→Jn} {wss:Nat→List Value} (hB:StB b.sts ρs wss (ρ 6) w) {ρf:Jn} (hlo:∀k,k<6→ρf k=ρ k) (hhi:∀k,6≤k→ρf k=ρs i (σ k))
 {ρ':Jn} {w':World} (hρ':∀k,k<np→ρ' k=ρf k)
 (hS:SatH w (Xi ρf (XS (b.wv (Gw ρs b.sts.length i))++stf (wss i))) ρ' (XN np (b'.wv (Gw ρs b.sts.length i)) b'.d b'.puts++stp (wss i)) w') :
 ∃ρ'':Jn,(∀k,k<7→ρ'' k=ρ k)∧SatH w (Xi ρ (KD b)) ρ'' (ar5 b') w':=by
 have hil:i<b.sts.length:=(List.getElem?_eq_some_iff.1 hi).1;have hnp:=A.np6;have hst:=hB.sts.at_ i D hi;have hpre:=A.pre (ρs i) ρf w (wss i) hst (fun k h1 _=>hhi k h1);obtain⟨lk0,lkn,lk1,lk4,lk5,lkh⟩:=@cl3 np hnp (b'.wv (Gw ρs b.sts.length i)) b'.d b'.puts (stp (wss i));have hol:=az2 ρs b.sts.length i;generalize hpF:XS (b.wv (Gw ρs b.sts.length i))++stf (wss i)=preF at hS;generalize hqF:XN np (b'.wv (Gw ρs b.sts.length i)) b'.d b'.puts++stp (wss i)=postF at hS lk0 lkn lk1 lk4 lk5 lkh;have hlow:∀k,k<6→ρ' k=ρ k:=fun k hk=>by rw[hρ' k (by omega),hlo k hk]
 have hbx:∀c,c∈(ρ 6).more→c∈(SO.box (Wm b.sts)).fp (ρ 6):=fun c hc=>List.mem_cons_of_mem _ hc
 have hM:∀c,c∈Xi ρf preF→(∃k o,k≠2∧k≠6∧Sx.look (KD b) k=some (true,o)∧0<o.room (ρ k)∧c∈o.fp (ρ k)) ∨
  (∃k q p,Sx.look (stf (wss i)) k≠none∧VU D (wss i) (σ k)=some q∧Wx (ρs i (σ k)) q=some c∧τ (σ k)=some p):=by
  intro c hc;obtain⟨k,o,hm,hr,hcf⟩:=XZ.1 hc;rw[←hpF]at hm;rcases List.mem_append.1 hm with hm|hm
  ·left;have hk:k<6∧k≠2∧Sx.look (XS (b.wv (Gw ρs b.sts.length i))) k=some (true,o):=by
    simp only[XS,wvX,List.mem_cons,Prod.mk.injEq,List.not_mem_nil,or_false]at hm;rcases hm with ⟨rfl,_,rfl⟩|⟨rfl,_,rfl⟩|⟨_,hf,_⟩|⟨rfl,_,rfl⟩|⟨rfl,_,rfl⟩|⟨rfl,_,rfl⟩
    ·exact⟨by omega,by omega,rfl⟩
    ·exact⟨by omega,by omega,rfl⟩
    ·cases hf
    ·exact⟨by omega,by omega,rfl⟩
    ·exact⟨by omega,by omega,rfl⟩
    ·exact⟨by omega,by omega,rfl⟩
   obtain⟨hk6,hk2,hl⟩:=hk;rw[aS0 hol hk2 hk6]at hl;rw[hlo k hk6]at hr hcf;exact⟨k,o,hk2,by omega,hl,hr,hcf⟩
  ·right;have hl:=A.uq _ _ _ _ hm;obtain⟨h1,_,_,⟨q,hq,hqr⟩,hfp,hp⟩:=hpre k true o hl;obtain⟨p,hp⟩:=hp rfl;rw[hfp]at hcf;have hlv:=Gp (hqr _ hr);rw[hhi k h1]at hlv hcf;exact⟨k,q,p,by rw[hl];simp,hq,by rw[List.mem_singleton.1 hcf];exact hlv,hp⟩
 have hMsub:∀c,c∈Xi ρf preF→c∈Xi ρ (KD b):=by
  intro c hc;rcases hM c hc with ⟨k,o,_,_,hl,hr,hcf⟩|⟨k,q,p,_,hq,hlv,_⟩
  ·exact XZ.2 ⟨k,o,Qd hl,hr,hcf⟩
  ·obtain⟨g1,g2⟩:=hB.foot i D _ q c hi hq hlv;exact XZ.2 ⟨6,_,Qd Wo,g2,hbx _ g1⟩
 have kept2:0<(ρ 2).cap*1→(ρ 2).blk<w.heap.size∧(ρ 2).blk∉Xi ρf preF:=by
  intro hr;refine⟨hH.valid 2 true _ Wn hr _ Xf,fun hc=>?_⟩;rcases hM _ hc with ⟨k,o,hk2,hk6,hl,hr',hcf⟩|⟨k,q,p,_,hq,hlv,_⟩
  ·exact hH.apart k 2 o true _ hk2 hl Wn hr' hr _ hcf Xf
  ·obtain⟨g1,g2⟩:=hB.foot i D _ q _ hi hq hlv;exact hH.apart 2 6 _ true _ (by omega) Wn Wo hr g2 _ Xf (hbx _ g1)
 have keptS:∀i' D0 k0 o0 c,b.sts[i']? = some D0→VU D0 (wss i') k0=some o0→Wx (ρs i' k0) o0=some c→¬(i'=i∧∃p,τ k0=some p)→c<w.heap.size∧c∉Xi ρf preF:=by
  intro i' D0 k0 o0 c hi' ho0 hlv hnot;obtain⟨g1,g2⟩:=hB.foot i' D0 k0 o0 c hi' ho0 hlv;refine⟨hH.valid 6 true _ Wo g2 _ (hbx _ g1),fun hc=>?_⟩;rcases hM _ hc with ⟨k,o,hk2,hk6,hl,hr',hcf⟩|⟨k,q,p,_,hq,hlv',hp⟩
  ·exact hH.apart k 6 o true _ hk6 hl Wo hr' g2 _ hcf (hbx _ g1)
  ·obtain⟨e1,e2⟩:=hB.sts.sep i D _ q i' D0 k0 o0 c hi hq hi' ho0 hlv' hlv;exact hnot ⟨e1.symm,p,by rw[←e2];exact hp⟩
 have same:∀c,c<w.heap.size→c∉Xi ρf preF→w'.heap[c]? = w.heap[c]?:=fun c h1 h2=>hS.frm.same c h1 h2;have notPost:∀p o,Sx.look postF p=some (true,o)→0<o.room (ρ' p)→∀c∈o.fp (ρ' p),¬(c<w.heap.size∧c∉Xi ρf preF):=by
  rintro p o hp hr c hc ⟨h1,h2⟩
  rcases hS.fresh p o hp hr c hc with h3|h3
  ·omega
  ·exact h2 h3
 obtain⟨ρ1,hρ1⟩:∃ρ1:Jn,ρ1=fun k=>match τ k with|some p=>ρ' p|none=>ρs i k:=⟨_,rfl⟩
 have hρ1s:∀k p,τ k=some p→ρ1 k=ρ' p:=fun k p h=>by rw[hρ1];simp only[h]
 have hρ1n:∀k,τ k=none→ρ1 k=ρs i k:=fun k h=>by rw[hρ1];simp only[h]
 have hhiP:∀p x,Sx.look (stp (wss i)) p=some x→Sx.look postF p=some x:=fun p x hp=>by
  obtain⟨h1,h2,_⟩:=A.hi _ p x hp;rw[lkh p h1 h2];exact hp
 obtain⟨ws',hws',hcs⟩:=A.post (ρs i) ρ' ρ1 w w' (wss i) hst (fun k h1 h2=>by rw[hρ' k h2,hhi k h1]) hρ1s hρ1n (fun p own o hp=>hS.reg p own o (hhiP p _ hp));have hρ10:ρ1 0=ρs i 0:=by
  rcases A.τ0 with h|h
  ·exact hρ1n 0 h
  ·rw[hρ1s 0 6 h,hρ' 6 hnp,hhi 6 (Nat.le_refl _),A.σ6]
 obtain⟨ρs',hρs'⟩:∃ρs':Nat→Jn,ρs'=fun j=>if j=i then ρ1 else ρs j:=⟨_,rfl⟩
 obtain⟨wss',hwss'⟩:∃wss':Nat→List Value,wss'=fun j=>if j=i then ws' else wss j:=⟨_,rfl⟩
 have hsi:ρs' i=ρ1:=by rw[hρs'];simp
 have hwi:wss' i=ws':=by rw[hwss'];simp
 have hsn:∀j,j≠i→ρs' j=ρs j:=fun j hj=>by rw[hρs'];simp[hj]
 have hwn:∀j,j≠i→wss' j=wss j:=fun j hj=>by rw[hwss'];simp[hj]
 have hs0:∀j,ρs' j 0=ρs j 0:=fun j=>by
  by_cases hj:j=i
  ·subst hj;rw[hsi];exact hρ10
  ·rw[hsn j hj]
 have hget:∀j D0,b'.sts[j]? = some D0→(j=i∧D0=D')∨(j≠i∧b.sts[j]? = some D0):=by
  intro j D0 hj;rw[hb']at hj;by_cases hji:j=i
  ·subst hji;rw[List.getElem?_set_self hil]at hj;cases hj;exact .inl ⟨rfl,rfl⟩
  ·rw[List.getElem?_set_ne (fun h=>hji h.symm)]at hj;exact .inr ⟨hji,hj⟩
 have item:∀j D0 k o c,b'.sts[j]? = some D0→VU D0 (wss' j) k=some o→Wx (ρs' j k) o=some c →
  (∃D1 o1,b.sts[j]? = some D1∧VU D1 (wss j) k=some o1∧Wx (ρs j k) o1=some c∧¬(j=i∧∃p,τ k=some p)) ∨
  (j=i∧∃p o1,τ k=some p∧Sx.look postF p=some (true,o1)∧0<o1.room (ρ' p)∧c=(ρ' p).blk∧o1.fp (ρ' p)=[(ρ' p).blk]∧6≤p∧p≠np):=by
  intro j D0 k o c hj ho hlv;rcases hget j D0 hj with ⟨rfl,rfl⟩|⟨hji,hj⟩
  ·rw[hwi]at ho;rw[hsi]at hlv;rcases hcs k o ho with ⟨h1,h2,h3⟩|⟨p,o1,h1,h2,_,h4,h5⟩
   ·rw[hρ1n k h1]at hlv;exact .inl ⟨D,o,hi,h2,hlv,fun hh=>by obtain⟨_,p,hp⟩:=hh;rw[h1]at hp;cases hp⟩
   ·obtain⟨hr,rfl⟩:=ba9 hlv;rw[hρ1s k p h1]at hr ⊢;obtain⟨g1,g2,_⟩:=A.hi _ p _ h2;exact .inr ⟨rfl,p,o1,h1,hhiP p _ h2,h4 _ hr,rfl,h5 _,g1,g2⟩
  ·rw[hwn j hji]at ho;rw[hsn j hji]at hlv;exact .inl ⟨D0,o,hj,ho,hlv,fun hh=>hji hh.1⟩
 have hSt:StsAt b'.sts ρs' wss' w':=by
  refine⟨fun j D0 hj=>?_, ?_⟩
  ·rcases hget j D0 hj with ⟨rfl,rfl⟩|⟨hji,hj⟩
   ·rw[hsi,hwi];refine⟨fun k o ho=>?_,hws'⟩;rcases hcs k o ho with ⟨h1,h2,h3⟩|⟨p,o1,h1,h2,h3,_⟩
    ·refine((hst.reg k o h2).world (w':=w') fun hr c hc=>?_).asg (hρ1n k h1) h3;rw[(aw6 h2).1]at hc;rw[List.mem_singleton.1 hc];obtain⟨g1,g2⟩:=keptS j D k o _ hi h2 (Gp hr) (fun hh=>by obtain⟨_,p,hp⟩:=hh;rw[h1]at hp;cases hp);exact same _ g1 g2
    ·exact h3
   ·rw[hsn j hji,hwn j hji];refine(hB.sts.at_ j D0 hj).world fun k o ho hr=>?_;obtain⟨g1,g2⟩:=keptS j D0 k o _ hj ho (Gp hr) (fun hh=>hji hh.1);exact same _ g1 g2
  ·intro j D0 k o j' D0' k' o' c hj ho hj' ho' hl hl';rcases item j D0 k o c hj ho hl with ⟨D1,o1,h1,h2,h3,h4⟩|⟨rfl,p,o1,h1,h2,h3,h4,h5,_⟩
   ·rcases item j' D0' k' o' c hj' ho' hl' with ⟨D1',o1',h1',h2',h3',h4'⟩|⟨rfl,p',o1',h1',h2',h3',h4',h5',_⟩
    ·exact hB.sts.sep j D1 k o1 j' D1' k' o1' c h1 h2 h1' h2' h3 h3'
    ·refine absurd (keptS j D1 k o1 c h1 h2 h3 h4) (notPost p' o1' h2' h3' c ?_);rw[h5',h4'];simp
   ·rcases item j' D0' k' o' c hj' ho' hl' with ⟨D1',o1',h1',h2',h3',h4'⟩|⟨rfl,p',o1',h1',h2',h3',h4',h5',_⟩
    ·refine absurd (keptS j' D1' k' o1' c h1' h2' h3' h4') (notPost p o1 h2 h3 c ?_);rw[h5,h4];simp
    ·refine⟨rfl, ?_⟩;by_cases hpp:p=p'
     ·subst hpp;exact A.τi k k' p h1 h1'
     ·exfalso;refine hS.apart p p' o1 true o1' hpp h2 h2' h3 h3' c ?_ ?_
      ·rw[h5,h4];simp
      ·rw[h5',h4'];simp
 have hSB:=hSt.box;have hne:0<b'.sts.length:=by rw[hb',List.length_set];omega
 obtain⟨ρ'',hρ''⟩:∃ρ'':Jn,ρ''=fun k=>if k=7 then ρ' np else if k=8 then ah1 b'.sts ρs' wss' else ρ k:=⟨_,rfl⟩
 have e7:ρ'' 7=ρ' np:=by rw[hρ''];simp
 have e8:ρ'' 8=ah1 b'.sts ρs' wss':=by rw[hρ''];simp
 have elo:∀k,k<7→ρ'' k=ρ k:=fun k hk=>by
  rw[hρ''];show(if k=7 then ρ' np else if k=8 then ah1 b'.sts ρs' wss' else ρ k)=ρ k;rw[if_neg (by omega),if_neg (by omega)]
 have elo':∀k,k<6→ρ'' k=ρ' k:=fun k hk=>by rw[elo k (by omega),hlow k hk]
 have hmem8:∀c,c∈(SO.box (Wm b'.sts)).fp (ρ'' 8)→∃j D0 k o,b'.sts[j]? = some D0∧VU D0 (wss' j) k=some o∧Wx (ρs' j k) o=some c:=fun c hc=>by
  rw[e8]at hc;exact bE0 hne hc
 have hwl:b'.sts.length=b.sts.length:=by rw[hb',List.length_set]
 have src:∀k o,(k=0∧o=wbO 7 b')∨(k=7∧o=.arr (Xw b'.mail))∨(k=1∧o=VZ 5 b'.d)∨(k=4∧o=Jw false 2 b'.puts)∨(k=5∧o=Jw true 2 b'.d.known) →
  ∃o1,Sx.look postF (σ7 np k)=some (true,o1)∧ρ'' k=ρ' (σ7 np k)∧(∀r,o.room r=o1.room r)∧(∀r,o.fp r=[r.blk])∧(∀r,o1.fp r=[r.blk])∧SatO ρ'' w' k true o:=by
  rintro k o (⟨rfl,rfl⟩|⟨rfl,rfl⟩|⟨rfl,rfl⟩|⟨rfl,rfl⟩|⟨rfl,rfl⟩)
  ·have e:bf4 np (b'.wv (Gw ρs b.sts.length i))=(wbO 7 b').ren (σ7 np):=by
    show SO.cells _=SO.cells _;rw[show(b'.wv (Gw ρs b.sts.length i)).os.length=b'.sts.length from by rw[hwl];exact hol];rfl
   have h0:=hS.reg 0 true _ lk0;rw[e]at h0;refine⟨_,lk0,elo' 0 (by omega),fun _=>rfl,fun _=>rfl,fun _=>rfl, ?_⟩;refine(SatO.of_ren (σ:=σ7 np) (k:=0) h0).asg (elo' 0 (by omega)) fun n hn=>?_;rcases cl4 hn with rfl|rfl|rfl|rfl
   ·exact elo' 1 (by omega)
   ·exact elo' 2 (by omega)
   ·exact e7
   ·exact elo' 4 (by omega)
  ·refine⟨_,lkn,e7,fun _=>rfl,fun _=>rfl,fun _=>rfl, ?_⟩;refine SatO.mv (hS.reg np true _ lkn) e7 rfl (fun h=>h) (fun x j c hc=>⟨c,hc,fun v hv=>?_⟩) (Nat.le_refl _) (fun _ h=>by cases h) (fun _ h=>by cases h) (fun _ h=>by cases h) (fun _ h=>by cases h) rfl rfl;refine SC.rel_agree (fun n hn=>?_) hv;rw[arr_cell?]at hc;obtain⟨y,_,hy⟩:=Option.bind_eq_some_iff.1 hc;have:=(Xw b'.mail).hn y c (List.mem_of_getElem? hy) n hn;cases this
  ·refine⟨_,lk1,elo' 1 (by omega),fun _=>rfl,fun _=>rfl,fun _=>rfl, ?_⟩;exact(hS.reg 1 true _ lk1).asg (elo' 1 (by omega)) fun n hn=>by rw[bZ0 hn];exact elo' 5 (by omega)
  ·exact⟨_,lk4,elo' 4 (by omega),fun _=>rfl,fun _=>rfl,fun _=>rfl,(hS.reg 4 true _ lk4).asg (elo' 4 (by omega)) fun n hn=>by cases hn⟩
  ·exact⟨_,lk5,elo' 5 (by omega),fun _=>rfl,fun _=>rfl,fun _=>rfl,(hS.reg 5 true _ lk5).asg (elo' 5 (by omega)) fun n hn=>by cases hn⟩
 have σ7i:∀k k',(k=0∨k=7∨k=1∨k=4∨k=5)→(k'=0∨k'=7∨k'=1∨k'=4∨k'=5)→k≠k'→σ7 np k≠σ7 np k':=by
  intro k k' h h' hne;unfold σ7;split <;> split <;> omega
 have σ7l:∀k,(k=0∨k=7∨k=1∨k=4∨k=5)→σ7 np k<6∨σ7 np k=np:=by
  intro k h;unfold σ7;split
  ·exact .inr rfl
  ·left;omega
 have srcK:∀k o,((k=0∧o=wbO 7 b')∨(k=7∧o=.arr (Xw b'.mail))∨(k=1∧o=VZ 5 b'.d)∨(k=4∧o=Jw false 2 b'.puts)∨(k=5∧o=Jw true 2 b'.d.known))→(k=0∨k=7∨k=1∨k=4∨k=5):=by
  rintro k o (⟨h,_⟩|⟨h,_⟩|⟨h,_⟩|⟨h,_⟩|⟨h,_⟩)
  ·exact .inl h
  ·exact .inr (.inl h)
  ·exact .inr (.inr (.inl h))
  ·exact .inr (.inr (.inr (.inl h)))
  ·exact .inr (.inr (.inr (.inr h)))
 have kinds:∀k own o,Sx.look (ar5 b') k=some (own,o)→own=true∧(((k=0∧o=wbO 7 b')∨(k=7∧o=.arr (Xw b'.mail))∨(k=1∧o=VZ 5 b'.d)∨(k=4∧o=Jw false 2 b'.puts)∨(k=5∧o=Jw true 2 b'.d.known))∨(k=2∧o=.arr (UO 8 b'.sts.length))∨(k=8∧o=.box (Wm b'.sts))):=by
  intro k own o hk;obtain⟨h1,h2⟩:=bu0 hk;refine⟨h1, ?_⟩;rcases h2 with h|h|h|h|h|h|h
  ·exact .inl (.inl h)
  ·exact .inl (.inr (.inl h))
  ·exact .inl (.inr (.inr (.inl h)))
  ·exact .inl (.inr (.inr (.inr (.inl h))))
  ·exact .inl (.inr (.inr (.inr (.inr h))))
  ·exact .inr (.inl h)
  ·exact .inr (.inr h)
 have e2:ρ'' 2=ρ 2:=elo 2 (by omega);have pW2:∀k o,((k=0∧o=wbO 7 b')∨(k=7∧o=.arr (Xw b'.mail))∨(k=1∧o=VZ 5 b'.d)∨(k=4∧o=Jw false 2 b'.puts)∨(k=5∧o=Jw true 2 b'.d.known))→0<o.room (ρ'' k)→0<(ρ'' 2).cap*1→∀c,c∈o.fp (ρ'' k)→c∈[(ρ'' 2).blk]→False:=by
  intro k o hk hr hr2 c hc hc2;obtain⟨o1,l1,l2,l3,l4,l5,_⟩:=src k o hk;rw[e2]at hr2 hc2;rw[List.mem_singleton.1 hc2]at hc;rw[l4,l2]at hc;rw[l3,l2]at hr;exact notPost _ o1 l1 hr (ρ 2).blk (by rw[l5];exact hc) (kept2 hr2)
 have pW8:∀k o,((k=0∧o=wbO 7 b')∨(k=7∧o=.arr (Xw b'.mail))∨(k=1∧o=VZ 5 b'.d)∨(k=4∧o=Jw false 2 b'.puts)∨(k=5∧o=Jw true 2 b'.d.known))→0<o.room (ρ'' k)→∀c,c∈o.fp (ρ'' k)→c∈(SO.box (Wm b'.sts)).fp (ρ'' 8)→False:=by
  intro k o hk hr c hc hc8;obtain⟨o1,l1,l2,l3,l4,l5,_⟩:=src k o hk;rw[l4,l2]at hc;rw[l3,l2]at hr;obtain⟨j,D0,m,q,hj,hq,hlv⟩:=hmem8 c hc8;rcases item j D0 m q c hj hq hlv with ⟨D1,q1,h1,h2,h3,h4⟩|⟨rfl,p,q1,h1,h2,h3,h4,h5,h6,h7⟩
  ·exact notPost _ o1 l1 hr c (by rw[l5];exact hc) (keptS j D1 m q1 c h1 h2 h3 h4)
  ·refine hS.apart (σ7 np k) p o1 true q1 ?_ l1 h2 hr h3 c (by rw[l5];exact hc) (by rw[h5,h4];simp);rcases σ7l k (srcK k o hk)with h|h <;> omega
 have p28:0<(ρ'' 2).cap*1→∀c,c∈[(ρ'' 2).blk]→c∈(SO.box (Wm b'.sts)).fp (ρ'' 8)→False:=by
  intro hr c hc hc8;rw[e2]at hr hc;rw[List.mem_singleton.1 hc]at hc8;obtain⟨j,D0,m,q,hj,hq,hlv⟩:=hmem8 _ hc8;rcases item j D0 m q _ hj hq hlv with ⟨D1,q1,h1,h2,h3,h4⟩|⟨rfl,p,q1,h1,h2,h3,h4,h5,_⟩
  ·obtain⟨g1,g2⟩:=hB.foot j D1 m q1 _ h1 h2 h3;exact hH.apart 2 6 _ true _ (by omega) Wn Wo hr g2 _ Xf (hbx _ g1)
  ·exact notPost p q1 h2 h3 _ (by rw[h5,h4];simp) (kept2 hr)
 refine⟨ρ'',elo, ?_⟩;refine { frm:=⟨hS.frm.size,fun c hc hn=>hS.frm.same c hc (fun h=>hn (hMsub c h)),hS.frm.io,hS.frm.quiet⟩,reg:=?_,apart:=?_,fresh:=?_,valid:=?_ }
 ·intro k own o hk;obtain⟨rfl,hkd⟩:=kinds k own o hk;rcases hkd with hkd|⟨rfl,rfl⟩|⟨rfl,rfl⟩
  ·obtain⟨_,_,_,_,_,_,h⟩:=src k o hkd;exact h
  ·have h2:=(hH.reg 2 true _ Wn).world (w':=w') (fun hr c hc=>by
    have hc:c∈[(ρ 2).blk]:=hc;rw[List.mem_singleton.1 hc];obtain⟨g1,g2⟩:=kept2 hr;exact same _ g1 g2)
   refine SatO.mv h2 e2 rfl (fun h=>?_) (fun x j c hc=>?_) ?_ (fun _ h=>by cases h) (fun _ h=>by cases h) (fun _ h=>by cases h) (fun _ h=>by cases h) rfl rfl
   ·have h:(List.range b.sts.length).length≤(ρ 2).cap:=h;show(List.range b'.sts.length).length≤(ρ 2).cap;rw[hwl];exact h
   ·rw[arr_cell?]at hc;obtain⟨y,hy,hc⟩:=Option.bind_eq_some_iff.1 hc;have hc:[SC.gp 8 y][j]? = some c:=hc;have hj:j=0:=by
     have:=(List.getElem?_eq_some_iff.1 hc).1;simp at this;exact this
    subst hj;have hc:SC.gp 8 y=c:=by simpa using hc
    have hy:(List.range b'.sts.length)[x]? = some y:=hy;have hx:x<b'.sts.length:=by
     have:=(List.getElem?_eq_some_iff.1 hy).1
     simpa using this
    rw[List.getElem?_range hx]at hy;cases hy;have hx':x<b.sts.length:=by omega
    refine⟨.gp 6 x, ?_,fun v hv=>?_⟩
    ·rw[arr_cell?];show(List.range b.sts.length)[x]?.bind (fun i=>[SC.gp 6 i][0]?)=_;rw[List.getElem?_range hx'];rfl
    ·rw[←hc];simp only[SC.rel]at hv ⊢;obtain⟨a,l,c0,rfl,he⟩:=hv;obtain⟨l',c',he'⟩:=hB.ptr x _ (List.getElem?_eq_getElem hx');rw[he']at he;simp only[Option.some.injEq,Value.slice.injEq]at he;obtain⟨l2,c2,he2⟩:=hSB.ptr x _ (List.getElem?_eq_getElem hx);refine⟨a,l2,c2,rfl, ?_⟩;rw[e8,he2,←he.1];simp only[Jr,hs0]
   ·show(ρ 2).cap*1≤(ρ 2).cap*1;exact Nat.le_refl _
  ·exact {
    wf := trivial, at_ := fun i j c hc => by simp[SO.cell?]at hc, room := fun _ _ hb => absurd rfl (hb _), off0 := fun _ => by rw[e8];rfl, keys := fun Φ hΦ => (by cases hΦ),
    boxed:=fun b0 hb0=>(by cases hb0;rw[e8];exact⟨ρs',wss',hSB⟩),fixd:=fun n hn=>(by cases hn),typd:=fun t ht=>(by cases ht) }
 ·intro k k' o own' o' hkk hk hk' hr hr' c hc hc';obtain⟨_,hkd⟩:=kinds k true o hk;obtain⟨_,hkd'⟩:=kinds k' own' o' hk';rcases hkd with hkd|⟨rfl,rfl⟩|⟨rfl,rfl⟩
  ·rcases hkd' with hkd'|⟨rfl,rfl⟩|⟨rfl,rfl⟩
   ·obtain⟨o1,l1,l2,l3,l4,l5,_⟩:=src k o hkd;obtain⟨o1',l1',l2',l3',l4',l5',_⟩:=src k' o' hkd';rw[l4,l2]at hc;rw[l3,l2]at hr;rw[l4',l2']at hc';rw[l3',l2']at hr';exact hS.apart _ _ o1 true o1' (σ7i k k' (srcK k o hkd) (srcK k' o' hkd') hkk) l1 l1' hr hr' c (by rw[l5];exact hc) (by rw[l5'];exact hc')
   ·exact pW2 k o hkd hr hr' c hc hc'
   ·exact pW8 k o hkd hr c hc hc'
  ·rcases hkd' with hkd'|⟨rfl,rfl⟩|⟨rfl,rfl⟩
   ·exact pW2 k' o' hkd' hr' hr c hc' hc
   ·exact hkk rfl
   ·exact p28 hr c hc hc'
  ·rcases hkd' with hkd'|⟨rfl,rfl⟩|⟨rfl,rfl⟩
   ·exact pW8 k' o' hkd' hr' c hc' hc
   ·exact p28 hr' c hc' hc
   ·exact hkk rfl
 ·intro k o hk hr c hc;obtain⟨_,hkd⟩:=kinds k true o hk;rcases hkd with hkd|⟨rfl,rfl⟩|⟨rfl,rfl⟩
  ·obtain⟨o1,l1,l2,l3,l4,l5,_⟩:=src k o hkd;rw[l4,l2]at hc;rw[l3,l2]at hr;rcases hS.fresh _ o1 l1 hr c (by rw[l5];exact hc)with h|h
   ·exact .inl h
   ·exact .inr (hMsub c h)
  ·rw[e2]at hr hc;exact .inr (XZ.2 ⟨2,_,Qd Wn,hr,hc⟩)
  ·obtain⟨j,D0,m,q,hj,hq,hlv⟩:=hmem8 c hc;rcases item j D0 m q c hj hq hlv with ⟨D1,q1,h1,h2,h3,h4⟩|⟨rfl,p,q1,h1,h2,h3,h4,h5,_⟩
   ·obtain⟨g1,g2⟩:=hB.foot j D1 m q1 c h1 h2 h3;exact .inr (XZ.2 ⟨6,_,Qd Wo,g2,hbx _ g1⟩)
   ·rcases hS.fresh p q1 h2 h3 c (by rw[h5,h4];simp)with h|h
    ·exact .inl h
    ·exact .inr (hMsub c h)
 ·intro k own o hk hr c hc;obtain⟨rfl,hkd⟩:=kinds k own o hk;rcases hkd with hkd|⟨rfl,rfl⟩|⟨rfl,rfl⟩
  ·obtain⟨o1,l1,l2,l3,l4,l5,_⟩:=src k o hkd;rw[l4,l2]at hc;rw[l3,l2]at hr;exact hS.valid _ true o1 l1 hr c (by rw[l5];exact hc)
  ·rw[e2]at hr hc;exact Nat.lt_of_lt_of_le (hH.valid 2 true _ Wn hr c hc) hS.frm.size
  ·obtain⟨j,D0,m,q,hj,hq,hlv⟩:=hmem8 c hc;rcases item j D0 m q c hj hq hlv with ⟨D1,q1,h1,h2,h3,h4⟩|⟨rfl,p,q1,h1,h2,h3,h4,h5,_⟩
   ·exact Nat.lt_of_lt_of_le (keptS j D1 m q1 c h1 h2 h3 h4).1 hS.frm.size
   ·exact hS.valid p true q1 h2 h3 c (by rw[h5,h4];simp)
theorem UA{P:Program}{f:FuncId}{args:List SV}{r:SV}{b b':Wb}{i:Nat}{D D':Sd}{np:Nat}{stf stp:List Value→Je}{σ:Nat→Nat}{τ:Nat→Option Nat}(A:ActSt D D' np stf stp σ τ)(hi:b.sts[i]? = some D)(hb':b'.sts=b.sts.set i D')
 (hargs:∀s∈args,∀k,s.uses [k]=true→k<6) (hr:∀k,r.uses [k]=false)
 (T:∀os ws,os.length=b.sts.length→os[i]? = some none→(∀j,os[j]? = some none→j=i)→ws.length=D.ovs.length→Triple P f args (XS (b.wv os)++stf ws) np r (XN np (b'.wv os) b'.d b'.puts++stp ws)) :
 Triple P f args (KD b) 7 r (ar5 b'):=by
 have hil:i<b.sts.length:=(List.getElem?_eq_some_iff.1 hi).1;refine⟨?_, ?_⟩
 ·exact(T (Gw (fun _ _=>⟨0,0,0,[]⟩) b.sts.length i) (List.replicate D.ovs.length KJ) (az2 _ _ _) (bN9 hil) (fun j h=>cs5 j h) (by simp)).enter
 ·intro ρ w vals hv hH;obtain⟨ρs,wss,hB⟩:=(hH.reg 6 true _ Wo).boxed _ rfl;have hws:=(hB.sts.at_ i D hi).ws.len;obtain⟨ρf,hρf⟩:∃ρf:Jn,ρf=fun k=>if k<6 then ρ k else ρs i (σ k):=⟨_,rfl⟩
  have hlo:∀k,k<6→ρf k=ρ k:=fun k hk=>by rw[hρf];simp[hk]
  have hhi:∀k,6≤k→ρf k=ρs i (σ k):=fun k hk=>by rw[hρf];simp[show ¬k<6 from by omega]
  have hF:=cE2 A hi hH hB hlo hhi;intro cs;obtain⟨e,w',fr,⟨ρ',v,hb,he,hrel,hS⟩,hrest⟩:=(T (Gw ρs b.sts.length i) (wss i) (az2 _ _ _) (bN9 hil) (fun j h=>cs5 j h) hws).h ρf w vals (aM0 hargs hlo hv) hF cs;obtain⟨ρ'',h1,h2⟩:=cx4 A hi hb' hH hB hlo hhi hb hS;exact⟨e,w',fr,⟨ρ'',v,h1,he,SV.rel_agree (fun k hk=>by rw[hr k]at hk;cases hk) hrel,h2⟩,hrest⟩
def bm6(lo hi:Nat):List Nat→Bool
 | []=>true
 |x::r=>bif Nat.ble lo x&&Nat.blt x hi then bm6 lo hi r else false
theorem bu1{lo hi:Nat}:∀ {l:List Nat},bm6 lo hi l=true→∀n∈l,lo≤n∧n<hi
 | [],_,_,h=>by cases h
 |x::r,h,n,hn=>by
  simp only[bm6]at h;cases hb:Nat.ble lo x&&Nat.blt x hi with
  |false=>rw[hb]at h;cases h
  |true =>
   rw[hb]at h;rcases List.mem_cons.1 hn with rfl|hn
   ·simp only[Bool.and_eq_true]at hb;exact⟨Nat.le_of_ble_eq_true hb.1,Eq.mp Nat.blt_eq hb.2⟩
   ·exact bu1 h n hn
theorem Xa{ρ0 ρf:Jn}{w:World}{k np:Nat}{own:Bool}{o q:SO}{σ:Nat→Nat}(h:SatO ρ0 w (σ k) true q)(hρ:∀k,6≤k→k<np→ρf k=ρ0 (σ k))(h6:6≤k)(hk:k<np)(he:ad3 [] q (o.ren σ))(hn:bm6 6 np o.nms=true:=by rfl):SatO ρf w k own o:=by
 refine(SatO.of_ren (σ:=σ) (aq1 (nl:=[]) (by intro k hk;cases hk) he (h.less own))).asg (hρ k h6 hk) fun n hu=>?_;obtain⟨h1,h2⟩:=bu1 hn n (SO.uses_nms.1 hu);exact hρ n h1 h2
theorem bu2{ρ0 ρf:Jn}{w:World}{D:Sd}{ws:List Value}{j k kn:Nat}{ov:List Ky}(own:Bool)(hst:StAt ρ0 w D ws)(hj:D.ovs[j]? = some ov)(h2:ρf k=ρ0 2)(h6:ρf kn=ρ0 (6+j)) :
 SatO ρf w k own (.arr (Gv kn ov.length ((ws.map some).set j none))):=by
 have h:=(hst.reg 2 _ rfl).less own;have hjl:j<ws.length:=by rw[hst.ws.len];exact(List.getElem?_eq_some_iff.1 hj).1
 refine SatO.mv h h2 rfl (fun hw=>?_) (fun x m c hc=>?_) (Nat.le_refl _) (fun _ h=>by cases h) (fun _ h=>by cases h) (fun _ h=>by cases h) (fun _ h=>by cases h) rfl rfl
 ·have hw:ws.length≤(ρ0 2).cap:=hw;show((ws.map some).set j none).length≤(ρ0 2).cap
  simpa using hw
 ·rw[arr_cell?]at hc;obtain⟨y,hy,hc⟩:=Option.bind_eq_some_iff.1 hc;have hc:[ovC kn ov.length y][m]? = some c:=hc;have hm:m=0:=by
   have:=(List.getElem?_eq_some_iff.1 hc).1;simp at this;exact this
  subst hm;have hc:ovC kn ov.length y=c:=by simpa using hc
  have hy:((ws.map some).set j none)[x]? = some y:=hy;have hx:x<ws.length:=by
   have:=(List.getElem?_eq_some_iff.1 hy).1
   simpa using this
  refine⟨.v ws[x], ?_,fun v hv=>?_⟩
  ·rw[arr_cell?];show ws[x]?.bind (fun v=>[SC.v v][0]?)=_;rw[List.getElem?_eq_getElem hx];rfl
  ·have hv:v=ws[x]:=hv;by_cases hxj:x=j
   ·subst hxj;rw[List.getElem?_set_self (by simpa using hx)]at hy;cases hy;rw[←hc,hv];obtain⟨v',hv',hr⟩:=hst.ws.rel x ov hj;rw[List.getElem?_eq_getElem hx]at hv';cases hv';show(SC.s kn 0 ov.length 2).rel ρf ws[x];simp only[SC.rel,Jr,h6]at hr ⊢;exact hr
   ·rw[List.getElem?_set_ne (fun h=>hxj h.symm),List.getElem?_map,List.getElem?_eq_getElem hx]at hy;cases hy;rw[←hc];exact hv
theorem bE1{ρ' ρ1:Jn}{w':World}{ws:List Value}{j p pn len:Nat}(hjl:j<ws.length)(h:SatO ρ' w' p true (.arr (Gv pn len ((ws.map some).set j none))))(h2:ρ1 2=ρ' p) :
 ∃v',(SC.s pn 0 len 2).rel ρ' v'∧SatO ρ1 w' 2 true (.arr (ah0 (ws.set j v'))):=by
 obtain⟨v',hv',hr'⟩:=h.at_ j 0 (.s pn 0 len 2) (by
  rw[arr_cell?];show((ws.map some).set j none)[j]?.bind (fun x=>[ovC pn len x][0]?)=_;rw[List.getElem?_set_self (by simpa using hjl)];rfl)
 refine⟨v',hr', ?_⟩
 exact
  {wf:=by
    have hw:((ws.map some).set j none).length≤(ρ' p).cap:=h.wf;show(ws.set j v').length≤(ρ1 2).cap;rw[h2]
    simpa using hw
   at_:=fun x m c hc=>by
    rw[arr_cell?]at hc;obtain⟨y,hy,hc⟩:=Option.bind_eq_some_iff.1 hc;have hc:[SC.v y][m]? = some c:=hc;have hm:m=0:=by
     have:=(List.getElem?_eq_some_iff.1 hc).1;simp at this;exact this
    subst hm;have hc:SC.v y=c:=by simpa using hc
    subst hc;have hy:(ws.set j v')[x]? = some y:=hy;have hx:x<ws.length:=by
     have:=(List.getElem?_eq_some_iff.1 hy).1
     simpa using this
    by_cases hxj:x=j
    ·subst hxj;rw[List.getElem?_set_self hx]at hy;cases hy;exact⟨_,by simp only[Jr,h2]at *;exact hv',rfl⟩
    ·rw[List.getElem?_set_ne (fun h=>hxj h.symm),List.getElem?_eq_getElem hx]at hy;cases hy;obtain⟨v,hv,hr⟩:=h.at_ x 0 (.v ws[x]) (by
      rw[arr_cell?];show((ws.map some).set j none)[x]?.bind (fun x=>[ovC pn len x][0]?)=_;rw[List.getElem?_set_ne (fun h=>hxj h.symm),List.getElem?_map,List.getElem?_eq_getElem hx];rfl)
     exact⟨v,by simp only[Jr,h2]at *;exact hv,hr⟩
   room:=fun ho hm hb n hn=>by
    have:=h.room rfl (fun _ hh=>by cases hh) (fun _ hh=>by cases hh) n (by
     have hn:n<(ρ1 2).cap*1:=hn;rw[h2]at hn;exact hn)
    simp only[Jr,h2]at *;exact this
   off0:=fun ho=>by rw[h2];exact h.off0 rfl
   keys:=fun Φ hΦ=>(by cases hΦ),boxed:=fun b hb=>(by cases hb),fixd:=fun n hn=>(by cases hn),typd:=fun t ht=>(by cases ht) }
theorem WsOK.same{ρ0 ρ1:Jn}{D D':Sd}{ws:List Value}(h:WsOK ρ0 D ws)(ho:D'.ovs=D.ovs)(hρ:∀j,ρ1 (6+j)=ρ0 (6+j)):WsOK ρ1 D' ws where
 len:=by rw[ho];exact h.len
 rel j ov hj:=by
  rw[ho]at hj;obtain⟨v,h1,h2⟩:=h.rel j ov hj;refine⟨v,h1,SC.rel_agree (fun n hn=>?_) h2⟩;have:n=6+j:=by simpa [SC.nms] using hn
  rw[this];exact hρ j
theorem bf5(D:Sd):ActSt D D 7 (fun _=>Yz) (fun _=>[]) (fun k=>k-6) (fun _=>none) where
 np6:=by omega
 σ6:=rfl
 τ0:=.inl rfl
 uq ws k own o h:=by simp at h;obtain⟨rfl,rfl,rfl⟩:=h;rfl
 pre ρ0 ρf w ws hst hρ k own o hk:=by
  have hm:=Qd hk;simp only[Yz,List.mem_cons,Prod.mk.injEq,List.not_mem_nil,or_false]at hm;obtain⟨rfl,rfl,rfl⟩:=hm;exact⟨by omega,by omega,Xa (hst.reg 0 _ rfl) hρ (by omega) (by omega) cl,⟨_,rfl,fun _ _=>by show 0<6;decide⟩,fun _=>rfl,fun h=>by cases h⟩
 inj ws k k' hk hk' _:=by
  have hm:=fun k o h=>Qd (H:=Yz) (k:=k) (own:=(o:Bool×SO).1) (o:=o.2) h;obtain⟨x,hx⟩:=Option.isSome_iff_exists.1 hk;obtain⟨x',hx'⟩:=Option.isSome_iff_exists.1 hk';have h1:=hm _ _ hx;have h2:=hm _ _ hx';simp only[Yz,List.mem_cons,Prod.mk.injEq,List.not_mem_nil,or_false]at h1 h2;omega
 τi k k' p h:=by cases h
 hi ws p x h:=by cases h
 post ρ0 ρ' ρ1 w w' ws hst _ _ hn _:=⟨ws,hst.ws.same rfl fun j=>hn _ rfl,fun k o' h=>.inl ⟨rfl,h,fun n _=>hn n rfl⟩⟩
end Go.Proofs
