/-
  A part of the proof that a law answers true: lemmas of a symbolic walk, plain functions, or contracts of the functions walked (EW, Sx82, EX, Sx83, Sx33, EY). Conditions: none.
-/
import Derived.Test.YtfcdjkeamldkaaaGreatPart23
import Derived.Test.YtfcdjkeamldkaaaGreatPart08
set_option maxRecDepth 100000
set_option linter.unusedVariables false
set_option linter.unusedSimpArgs false
namespace Go.Proofs
open Go.Sx
def VC(num:Int)(size:List Int):Sd:=⟨num,size,List.replicate size.length [],Mp.nil,Mp.nil,Mp.nil⟩
abbrev aP5(rows:List (List Int))(Ds:List Sd):Je:=[(0,false, .box (KE rows)),(1,true, .arr (UO 2 Ds.length)),(2,true, .box (Wm Ds))]
abbrev bb2(n:Nat)(Ds:List Sd):Je:=[(1,true, .arr (UO 3 n)),(3,true, .box (Wm Ds))]
theorem bu3(num:Int)(h1:Jf num 1 6=true){rows:List (List Int)}{i:Nat}{row:List Int}(hi:rows[i]? = some row)(he:Yo row=0)(Ds:List Sd) :
 Triple Tryz.prog 51 [iv .i64 num, .c (.ghost 0 i)] (aP5 rows Ds) 3 (.tup [.inl (.gp 3 Ds.length), .inl (.v (.int .i64 0))]) (bb2 Ds.length (Ds++[VC num row])):=by
 have T:=bs7 num h1 row he;refine⟨T.enter, ?_⟩;intro ρ w vals hv hH;have lk0:Sx.look (aP5 rows Ds) 0=some (false, .box (KE rows)):=rfl;have lk1:Sx.look (aP5 rows Ds) 1=some (true, .arr (UO 2 Ds.length)):=rfl;have lk2:Sx.look (aP5 rows Ds) 2=some (true, .box (Wm Ds)):=rfl;obtain⟨ρs,wss,hB⟩:=(hH.reg 2 true _ lk2).boxed _ rfl;obtain⟨ρf,hcall⟩:=bE3 T (hH.reg 0 false _ lk0) (hH.valid 0 false _ lk0) hi hv;intro cs;obtain⟨e,w',fr,⟨ρ',v,he',hrel,hb,hS⟩,hrest⟩:=hcall cs;have hsame:∀c,c<w.heap.size→w'.heap[c]? = w.heap[c]?:=fun c hc=>hS.frm.same c hc (by simp);have hbx:∀c,c∈(ρ 2).more→c∈(SO.box (Wm Ds)).fp (ρ 2):=fun c hc=>List.mem_cons_of_mem _ hc;obtain⟨ρn,hρn⟩:∃ρn:Jn,ρn=fun k=>if k<6 then ρ' (k+1)else⟨0,0,0,[]⟩:=⟨_,rfl⟩
 have hnlo:∀k,k<6→ρn k=ρ' (k+1):=fun k hk=>by rw[hρn];simp[hk]
 have hnhi:∀k,ρn (k+6)=⟨0,0,0,[]⟩:=fun k=>by rw[hρn];exact if_neg (by omega)
 obtain⟨wsn,hwsn⟩:∃wsn,wsn=List.replicate row.length KJ:=⟨_,rfl⟩
 have hpl:∀p o,(p=1∧o=SO.cells [.s 2 0 row.length 1, .s 3 0 row.length 1, .m 4, .v (.int .i64 num), .m 5, .m 6])∨(p=2∧o=.arr (Yn row))∨(p=3∧o=.arr (ah0 wsn))∨(p=4∧o=Jw true 2 Mp.nil)∨(p=5∧o=Jw false 2 Mp.nil)∨(p=6∧o=Jw false 2 Mp.nil) →
  Sx.look [(1,true,SO.cells [.s 2 0 row.length 1, .s 3 0 row.length 1, .m 4, .v (.int .i64 num), .m 5, .m 6]),(2,true, .arr (Yn row)),(3,true, .arr (ah0 (List.replicate row.length KJ))),(4,true,Jw true 2 Mp.nil),(5,true,Jw false 2 Mp.nil),(6,true,Jw false 2 Mp.nil)] p=some (true,o):=by
  subst hwsn
  rintro p o (⟨rfl,rfl⟩|⟨rfl,rfl⟩|⟨rfl,rfl⟩|⟨rfl,rfl⟩|⟨rfl,rfl⟩|⟨rfl,rfl⟩) <;> rfl
 have hnew:∀k o,VU (VC num row) wsn k=some o→(k<6∧∃o1,Sx.look [(1,true,SO.cells [.s 2 0 row.length 1, .s 3 0 row.length 1, .m 4, .v (.int .i64 num), .m 5, .m 6]),(2,true, .arr (Yn row)),(3,true, .arr (ah0 (List.replicate row.length KJ))),(4,true,Jw true 2 Mp.nil),(5,true,Jw false 2 Mp.nil),(6,true,Jw false 2 Mp.nil)] (k+1)=some (true,o1)∧(∀r,o.room r=o1.room r)∧(∀r,o1.fp r=[r.blk])∧SatO ρn w' k true o) ∨
  (∃j,k=j+6∧o=.arr (Vn [])):=by
  intro k o ho
  match k,ho with
  |0,ho =>
   cases ho;refine .inl ⟨by omega,_,hpl 1 _ (.inl ⟨rfl,rfl⟩),fun _=>rfl,fun _=>rfl, ?_⟩;have h0:=hS.reg 1 true _ (hpl 1 _ (.inl ⟨rfl,rfl⟩));have e:(SO.cells [.s 2 0 row.length 1, .s 3 0 row.length 1, .m 4, .v (.int .i64 num), .m 5, .m 6])=(SO.cells (sdC (VC num row))).ren (fun k=>k+1):=by
    show SO.cells _=SO.cells [.s 2 0 row.length 1, .s 3 0 (VC num row).ovs.length 1, .m 4, .v (.int .i64 num), .m 5, .m 6];rw[show(VC num row).ovs.length=row.length from by simp[VC]]
   rw[e]at h0;exact(SatO.of_ren (σ:=fun k=>k+1) (k:=0) h0).asg (hnlo 0 (by omega)) fun n hn=>hnlo n (by have:=(aV5 hn).2;omega)
  |1,ho =>
   cases ho;refine .inl ⟨by omega,_,hpl 2 _ (.inr (.inl ⟨rfl,rfl⟩)),fun _=>rfl,fun _=>rfl, ?_⟩;refine SatO.mv (hS.reg 2 true _ (hpl 2 _ (.inr (.inl ⟨rfl,rfl⟩)))) (hnlo 1 (by omega)) rfl (fun h=>h) (fun x j c hc=>⟨c,hc,fun v hv=>?_⟩) (Nat.le_refl _) (fun _ h=>by cases h) (fun _ h=>by cases h) (fun _ h=>by cases h) (fun _ h=>by cases h) rfl rfl;refine SC.rel_agree (fun n hn=>?_) hv;rw[arr_cell?]at hc;obtain⟨y,_,hy⟩:=Option.bind_eq_some_iff.1 hc;have:=(Yn row).hn y c (List.mem_of_getElem? hy) n hn;cases this
  |2,ho =>
   cases ho;refine .inl ⟨by omega,_,hpl 3 _ (.inr (.inr (.inl ⟨rfl,rfl⟩))),fun _=>rfl,fun _=>rfl, ?_⟩;refine SatO.mv (hS.reg 3 true _ (hpl 3 _ (.inr (.inr (.inl ⟨rfl,rfl⟩))))) (hnlo 2 (by omega)) rfl (fun h=>h) (fun x j c hc=>⟨c,hc,fun v hv=>?_⟩) (Nat.le_refl _) (fun _ h=>by cases h) (fun _ h=>by cases h) (fun _ h=>by cases h) (fun _ h=>by cases h) rfl rfl;refine SC.rel_agree (fun n hn=>?_) hv;rw[arr_cell?]at hc;obtain⟨y,_,hy⟩:=Option.bind_eq_some_iff.1 hc;have:=(ah0 wsn).hn y c (List.mem_of_getElem? hy) n hn;cases this
  |3,ho =>
   cases ho;exact .inl ⟨by omega,_,hpl 4 _ (.inr (.inr (.inr (.inl ⟨rfl,rfl⟩)))),fun _=>rfl,fun _=>rfl,ae2 (hS.reg 4 true _ (hpl 4 _ (.inr (.inr (.inr (.inl ⟨rfl,rfl⟩)))))) (hnlo 3 (by omega))⟩
  |4,ho =>
   cases ho;exact .inl ⟨by omega,_,hpl 5 _ (.inr (.inr (.inr (.inr (.inl ⟨rfl,rfl⟩))))),fun _=>rfl,fun _=>rfl,ae2 (hS.reg 5 true _ (hpl 5 _ (.inr (.inr (.inr (.inr (.inl ⟨rfl,rfl⟩))))))) (hnlo 4 (by omega))⟩
  |5,ho =>
   cases ho;exact .inl ⟨by omega,_,hpl 6 _ (.inr (.inr (.inr (.inr (.inr ⟨rfl,rfl⟩))))),fun _=>rfl,fun _=>rfl,ae2 (hS.reg 6 true _ (hpl 6 _ (.inr (.inr (.inr (.inr (.inr ⟨rfl,rfl⟩))))))) (hnlo 5 (by omega))⟩
  |j+6,ho =>
   have ho:((VC num row).ovs[j]?).map (fun ov=>SO.arr (Vn ov))=some o:=ho;obtain⟨ov,hov,rfl⟩:=Option.map_eq_some_iff.1 ho;have:ov=[]:=List.eq_of_mem_replicate (List.mem_of_getElem? (show(List.replicate row.length ([]:List Ky))[j]? = some ov from hov));subst this;exact .inr ⟨j,rfl,rfl⟩
 obtain⟨ρs',hρs'⟩:∃ρs':Nat→Jn,ρs'=fun j=>if j=Ds.length then ρn else ρs j:=⟨_,rfl⟩
 obtain⟨wss',hwss'⟩:∃wss':Nat→List Value,wss'=fun j=>if j=Ds.length then wsn else wss j:=⟨_,rfl⟩
 have hsi:ρs' Ds.length=ρn:=by rw[hρs'];simp
 have hwi:wss' Ds.length=wsn:=by rw[hwss'];simp
 have hsn:∀j,j<Ds.length→ρs' j=ρs j:=fun j hj=>by rw[hρs'];simp[show j≠Ds.length from by omega]
 have hwn:∀j,j<Ds.length→wss' j=wss j:=fun j hj=>by rw[hwss'];simp[show j≠Ds.length from by omega]
 have hget:∀(j:Nat) D0,(Ds++[VC num row])[j]? = some D0→(j<Ds.length∧Ds[j]? = some D0)∨(j=Ds.length∧D0=VC num row):=by
  intro j D0 hj;by_cases hl:j<Ds.length
  ·rw[List.getElem?_append_left hl]at hj;exact .inl ⟨hl,hj⟩
  ·have hl2:j<(Ds++[VC num row]).length:=(List.getElem?_eq_some_iff.1 hj).1;have hje:j=Ds.length:=by simp at hl2;omega
   subst hje;rw[List.getElem?_append_right (Nat.le_refl _),Nat.sub_self]at hj;exact .inr ⟨rfl,(Option.some.inj hj).symm⟩
 have item:∀(j:Nat) D0 k o c,(Ds++[VC num row])[j]? = some D0→VU D0 (wss' j) k=some o→Wx (ρs' j k) o=some c →
  (j<Ds.length∧Ds[j]? = some D0∧VU D0 (wss j) k=some o∧Wx (ρs j k) o=some c) ∨
  (j=Ds.length∧k<6∧∃o1,Sx.look [(1,true,SO.cells [.s 2 0 row.length 1, .s 3 0 row.length 1, .m 4, .v (.int .i64 num), .m 5, .m 6]),(2,true, .arr (Yn row)),(3,true, .arr (ah0 (List.replicate row.length KJ))),(4,true,Jw true 2 Mp.nil),(5,true,Jw false 2 Mp.nil),(6,true,Jw false 2 Mp.nil)] (k+1)=some (true,o1)∧0<o1.room (ρ' (k+1))∧c∈o1.fp (ρ' (k+1))):=by
  intro j D0 k o c hj ho hlv;rcases hget j D0 hj with ⟨hl,hj⟩|⟨rfl,rfl⟩
  ·rw[hwn j hl]at ho;rw[hsn j hl]at hlv;exact .inl ⟨hl,hj,ho,hlv⟩
  ·rw[hwi]at ho;rw[hsi]at hlv;obtain⟨hr,rfl⟩:=ba9 hlv;rcases hnew k o ho with ⟨hk,o1,g1,g2,g3,_⟩|⟨m,rfl,rfl⟩
   ·rw[hnlo k hk]at hr ⊢;exact .inr ⟨rfl,hk,o1,g1,by rw[←g2];exact hr,by rw[g3];simp⟩
   ·rw[hnhi]at hr;exact absurd hr (by show ¬0<0*2;decide)
 have oldB:∀(j:Nat) D0 k o c,Ds[j]? = some D0→VU D0 (wss j) k=some o→Wx (ρs j k) o=some c→c<w.heap.size∧c∈(ρ 2).more∧0<(ρ 2).cap:=by
  intro j D0 k o c hj ho hlv;obtain⟨g1,g2⟩:=hB.foot j D0 k o c hj ho hlv;exact⟨hH.valid 2 true _ lk2 g2 _ (hbx _ g1),g1,g2⟩
 have newB:∀p o1 c,Sx.look [(1,true,SO.cells [.s 2 0 row.length 1, .s 3 0 row.length 1, .m 4, .v (.int .i64 num), .m 5, .m 6]),(2,true, .arr (Yn row)),(3,true, .arr (ah0 (List.replicate row.length KJ))),(4,true,Jw true 2 Mp.nil),(5,true,Jw false 2 Mp.nil),(6,true,Jw false 2 Mp.nil)] p=some (true,o1)→0<o1.room (ρ' p)→c∈o1.fp (ρ' p)→w.heap.size≤c∧c<w'.heap.size:=by
  intro p o1 c h1 h2 h3;refine⟨?_,hS.valid p true o1 h1 h2 c h3⟩;rcases hS.fresh p o1 h1 h2 c h3 with h|h
  ·exact h
  ·cases h
 have hSt:StsAt (Ds++[VC num row]) ρs' wss' w':=by
  refine⟨fun j D0 hj=>?_, ?_⟩
  ·rcases hget j D0 hj with ⟨hl,hj⟩|⟨rfl,rfl⟩
   ·rw[hsn j hl,hwn j hl];exact(hB.sts.at_ j D0 hj).world fun k o ho hr=>hsame _ (oldB j D0 k o _ hj ho (Gp hr)).1
   ·rw[hsi,hwi];refine⟨fun k o ho=>?_,⟨by rw[hwsn];simp[VC],fun m ov hov=>?_⟩⟩
    ·rcases hnew k o ho with ⟨_,_,_,_,_,h⟩|⟨m,rfl,rfl⟩
     ·exact h
     ·exact {
       wf := Nat.zero_le _, at_ := fun x y d hd => by rw[arr_cell?]at hd;have hd : ([] : List Ky)[x]?.bind (fun k : Ky => [SC.v (.int .i64 k.1), SC.v (.int .i64 k.2)][y]?) = some d := hd;simp at hd
       room:=fun _ _ _ n hn=>(by have hn:n<(ρn (m+6)).cap*2:=hn;rw[hnhi]at hn;have hn:n<0*2:=hn;omega),off0:=fun _=>(by rw[hnhi]),keys:=fun Φ hΦ=>(by cases hΦ),boxed:=fun b hb=>(by cases hb),fixd:=fun n hn=>(by cases hn),typd:=fun t ht=>(by cases ht) }
    ·have hm:=(List.getElem?_eq_some_iff.1 (show(List.replicate row.length ([]:List Ky))[m]? = some ov from hov)).1;have:ov=[]:=List.eq_of_mem_replicate (List.mem_of_getElem? (show(List.replicate row.length ([]:List Ky))[m]? = some ov from hov));subst this;refine⟨KJ,by rw[hwsn,List.getElem?_replicate,if_pos (by simpa using hm)], ?_⟩;rw[Nat.add_comm];refine⟨none,by rw[hnhi];rfl,by rw[hnhi];exact Nat.le_refl _,fun h=>by rw[hnhi]at h;exact absurd h (by simp)⟩
  ·intro j D0 k o j' D0' k' o' c hj ho hj' ho' hl hl';rcases item j D0 k o c hj ho hl with ⟨q1,q2,q3,q4⟩|⟨rfl,q2,o1,q3,q4,q5⟩
   ·rcases item j' D0' k' o' c hj' ho' hl' with ⟨q1',q2',q3',q4'⟩|⟨rfl,q2',o1',q3',q4',q5'⟩
    ·exact hB.sts.sep j D0 k o j' D0' k' o' c q2 q3 q2' q3' q4 q4'
    ·have:=(oldB j D0 k o c q2 q3 q4).1;have:=(newB _ o1' c q3' q4' q5').1;omega
   ·rcases item j' D0' k' o' c hj' ho' hl' with ⟨q1',q2',q3',q4'⟩|⟨rfl,q2',o1',q3',q4',q5'⟩
    ·have:=(oldB j' D0' k' o' c q2' q3' q4').1;have:=(newB _ o1 c q3 q4 q5).1;omega
    ·refine⟨rfl, ?_⟩;by_cases hkk:k=k'
     ·exact hkk
     ·exact absurd q5' (hS.apart (k+1) (k'+1) o1 true o1' (by omega) q3 q3' q4 q4' c q5)
 have hSB:=hSt.box;have hne:0<(Ds++[VC num row]).length:=by simp
 obtain⟨ρ'',hρ''⟩:∃ρ'':Jn,ρ''=fun k=>if k=3 then ah1 (Ds++[VC num row]) ρs' wss' else ρ k:=⟨_,rfl⟩
 have e3:ρ'' 3=ah1 (Ds++[VC num row]) ρs' wss':=by rw[hρ''];simp
 have elo:∀k,k<3→ρ'' k=ρ k:=fun k hk=>by rw[hρ''];simp[show k≠3 from by omega]
 have e1:=elo 1 (by omega);have hmem3:∀c,c∈(SO.box (Wm (Ds++[VC num row]))).fp (ρ'' 3)→(c<w.heap.size∧c∈(ρ 2).more∧0<(ρ 2).cap)∨(w.heap.size≤c∧c<w'.heap.size):=by
  intro c hc;rw[e3]at hc;obtain⟨j,D0,k,o,hj,ho,hlv⟩:=bE0 hne hc;rcases item j D0 k o c hj ho hlv with ⟨q1,q2,q3,q4⟩|⟨rfl,q2,o1,q3,q4,q5⟩
  ·exact .inl (oldB j D0 k o c q2 q3 q4)
  ·exact .inr (newB _ o1 c q3 q4 q5)
 have kinds:∀k own o,Sx.look (bb2 Ds.length (Ds++[VC num row])) k=some (own,o)→own=true∧((k=1∧o=.arr (UO 3 Ds.length))∨(k=3∧o=.box (Wm (Ds++[VC num row])))):=by
  intro k own o hk;rw[Jh]at hk;by_cases h1:k=1
  ·rw[if_pos h1]at hk;cases hk;exact⟨rfl, .inl ⟨h1,rfl⟩⟩
  rw[if_neg h1,Jh]at hk;by_cases h3:k=3
  ·rw[if_pos h3]at hk;cases hk;exact⟨rfl, .inr ⟨h3,rfl⟩⟩
  rw[if_neg h3]at hk;cases hk
 have p13:0<(ρ'' 1).cap*1→∀c,c∈[(ρ'' 1).blk]→c∈(SO.box (Wm (Ds++[VC num row]))).fp (ρ'' 3)→False:=by
  intro hr c hc hc3;rw[e1]at hr hc;have hc1:=List.mem_singleton.1 hc;rcases hmem3 c hc3 with ⟨_,h1,h2⟩|⟨h1,_⟩
  ·exact hH.apart 1 2 _ true _ (by omega) lk1 lk2 hr h2 c (by rw[hc1];exact Xf) (hbx _ h1)
  ·have:=hH.valid 1 true _ lk1 hr (ρ 1).blk Xf;omega
 refine⟨e,w',fr,⟨ρ'',v,elo,he', ?_, ?_⟩,hrest⟩
 ·
   obtain⟨xs,rfl,hx⟩:=hrel;refine⟨xs,rfl, ?_⟩
   match xs.toList,hx with
   | [u0,u1],hx =>
    refine⟨?_,hx.2.1,trivial⟩;have h0:u0=.pointer (some (Jr ρ' 1 (0*0+0))):=hx.1;obtain⟨l,c,hl⟩:=hSB.ptr Ds.length (VC num row) (by simp);refine⟨Jr ρ' 1 0,l,c,by rw[h0], ?_⟩;rw[e3,hl];simp only[Jr,hsi,hnlo 0 (by omega)]
 ·refine { frm:=⟨hS.frm.size,fun c hc _=>hsame c hc,hS.frm.io,hS.frm.quiet⟩,reg:=?_,apart:=?_,fresh:=?_,valid:=?_ }
  ·intro k own o hk;obtain⟨rfl,hkd⟩:=kinds k own o hk;rcases hkd with ⟨rfl,rfl⟩|⟨rfl,rfl⟩
   ·have h2:=(hH.reg 1 true _ lk1).world (w':=w') (fun hr c hc=>hsame c (hH.valid 1 true _ lk1 hr c hc));refine SatO.mv h2 e1 rfl (fun h=>h) (fun x j c hc=>?_) (Nat.le_refl _) (fun _ h=>by cases h) (fun _ h=>by cases h) (fun _ h=>by cases h) (fun _ h=>by cases h) rfl rfl;rw[arr_cell?]at hc;obtain⟨y,hy,hc⟩:=Option.bind_eq_some_iff.1 hc;have hc:[SC.gp 3 y][j]? = some c:=hc;have hj:j=0:=by
     have:=(List.getElem?_eq_some_iff.1 hc).1;simp at this;exact this
    subst hj;have hc:SC.gp 3 y=c:=by simpa using hc
    have hy:(List.range Ds.length)[x]? = some y:=hy;have hx:x<Ds.length:=by
     have:=(List.getElem?_eq_some_iff.1 hy).1
     simpa using this
    rw[List.getElem?_range hx]at hy;cases hy;refine⟨.gp 2 x, ?_,fun v hv=>?_⟩
    ·rw[arr_cell?];show(List.range Ds.length)[x]?.bind (fun i=>[SC.gp 2 i][0]?)=_;rw[List.getElem?_range hx];rfl
    ·rw[←hc];simp only[SC.rel]at hv ⊢;obtain⟨a,l,c0,rfl,hea⟩:=hv;obtain⟨l',c',he2⟩:=hB.ptr x _ (List.getElem?_eq_getElem hx);rw[he2]at hea;simp only[Option.some.injEq,Value.slice.injEq]at hea;obtain⟨l2,c2,he3⟩:=hSB.ptr x Ds[x] (by rw[List.getElem?_append_left hx];exact List.getElem?_eq_getElem hx);refine⟨a,l2,c2,rfl, ?_⟩;rw[e3,he3,←hea.1,hsn x hx]
   ·exact {
     wf := trivial, at_ := fun i j c hc => by simp[SO.cell?]at hc, room := fun _ _ hb => absurd rfl (hb _), off0 := fun _ => by rw[e3];rfl, keys := fun Φ hΦ => (by cases hΦ),
     boxed:=fun b0 hb0=>(by cases hb0;rw[e3];exact⟨ρs',wss',hSB⟩),fixd:=fun n hn=>(by cases hn),typd:=fun t ht=>(by cases ht) }
  ·intro k k' o own' o' hkk hk hk' hr hr' c hc hc';obtain⟨_,hkd⟩:=kinds k true o hk;obtain⟨_,hkd'⟩:=kinds k' own' o' hk';rcases hkd with ⟨rfl,rfl⟩|⟨rfl,rfl⟩ <;> rcases hkd' with ⟨rfl,rfl⟩|⟨rfl,rfl⟩
   ·exact hkk rfl
   ·exact p13 hr c hc hc'
   ·exact p13 hr' c hc' hc
   ·exact hkk rfl
  ·intro k o hk hr c hc;obtain⟨_,hkd⟩:=kinds k true o hk;rcases hkd with ⟨rfl,rfl⟩|⟨rfl,rfl⟩
   ·rw[e1]at hr hc;exact .inr (XZ.2 ⟨1,_,Qd lk1,hr,hc⟩)
   ·rcases hmem3 c hc with ⟨_,h1,h2⟩|⟨h1,_⟩
    ·exact .inr (XZ.2 ⟨2,_,Qd lk2,h2,hbx _ h1⟩)
    ·exact .inl h1
  ·intro k own o hk hr c hc;obtain⟨rfl,hkd⟩:=kinds k own o hk;rcases hkd with ⟨rfl,rfl⟩|⟨rfl,rfl⟩
   ·rw[e1]at hr hc;exact Nat.lt_of_lt_of_le (hH.valid 1 true _ lk1 hr c hc) hS.frm.size
   ·rcases hmem3 c hc with ⟨h1,_⟩|⟨_,h1⟩
    ·exact Nat.lt_of_lt_of_le h1 hS.frm.size
    ·exact h1
end Go.Proofs
namespace Go
namespace Sx
def ca0(τ:List (Nat×Nat))(f:FuncId)(args:List SV)(pre:Je)(np:Nat)(r:SV)(post:Je)(g:SV)(acts:List SV)(H:Je)(nx:Nat)(K:Eff→Prop):Prop :=
 match g with
 | .c (.f g caps)=>bif Nat.beq g f then
  bif US (keys pre) (av5 args)&&(US (keys pre) (Vl pre)&&(VF (VO (JM τ) (keys pre))&&(XR nx (VO (JM τ) (keys pre)) &&
   (an0 np (keys pre) (r.nms++Vl (XK post))&&(VF (keys post)&&XR np (keys pre))))))then
   aX7 [] (acts++Uv caps) (aO2 (JM τ) args)∧aq2 [] H (JM τ) pre ∧
   K ⟨r.ren (Xq np nx τ),VO (JM τ) (keys pre),GF (Xq np nx τ) (XK post)++Xy τ (keys (XK post)) pre,Gs nx (al5 (r.nms++Vl (XK post)) np-np)⟩
  else False
  else False
 |_=>False
theorem aE6(τ:List (Nat×Nat)){cx:Cx}{o:Oper}{e:Env}{H:Je}{nx:Nat}{K:Eff→Prop}{c:Call}{x:Operand}{f:FuncId}{args:List SV}{pre:Je}{np:Nat}{r:SV}{post:Je}
 (T:Triple cx.P f args pre np r post) (ho:o.op=.call c) (hc:c.callee=.value x) (h:ca0 τ f args pre np r post (ev e x) (evs e c.args.toList) H nx K) :
 ∃F,CallOK cx o e H nx F∧K F:=by
 unfold ca0 at h;split at h
 ·rename_i g caps he
  cases hg:Nat.beq g f with
  |false=>simp[hg]at h
  |true =>
  simp only[hg,cond_true]at h;have hgf:=Nat.eq_of_beq_eq_true hg;obtain⟨hall,h⟩:=YS h;simp only[Bool.and_eq_true]at hall;obtain⟨c1,c2,c3,c4,c5,c6,c7⟩:=hall;obtain⟨hargs,hpre,hK⟩:=h;refine at6 (post:=XK post) ⟨c1,c2,c3,c4,c5,ad5,c7⟩ hpre ?_ hK;intro ρ a w hr _ hH KK Q hKK;have hops:∀y∈c.args.toList,y∈o.op.operands.toList:=fun y hy=>by simp[ho,Op.operands,Call.operands,hc];exact .inr (by simpa using hy)
  have hopx:x∈o.op.operands.toList:=by simp[ho,Op.operands,Call.operands,hc]
  have hfit:∀y,y∈o.op.operands.toList→(ev e y).rel ρ (a.eval y):=fun y hy=>Jg hy hr;have hx:=hfit x hopx;rw[he]at hx;simp only[SV.rel,SC.rel]at hx;have hvals:YR (fun k=>ρ (JM τ k)) args (c.args.toList.map a.eval++caps.map fun k=>Value.pointer (some (Jr ρ k 0))) :=
   ak3.1 (aj8 (nl:=[]) (by intro k hk;cases hk) hargs (ad4 (ag1 fun y hy=>hfit y (hops y hy)) at5))
  have hcall:=T.h (fun k=>ρ (JM τ k)) w (c.args.map a.eval++(caps.map fun k=>Value.pointer (some (Jr ρ k 0))).toArray) (by simpa using hvals) hH;have hrun:(execOp a.eval o).run cx.P w=.ok (.enter f (c.args.map a.eval++(caps.map fun k=>Value.pointer (some (Jr ρ k 0))).toArray)) w:=by
   simp only[execOp,ho,resolve,hc,hx,Deferred.ofValue,Sem.run_bind,Sem.run_pure,Result.andThen_ok,invoke,hgf];rw[T.enter];simp
  refine⟨fun _ _=>trivial, ?_⟩;rw[Oper.semAt_eq _ _ _ (by simp[ho]),hrun,Oper.uponIn_enter];refine⟨fun h=>by simp[WF,Fence.wide]at h, ?_⟩;refine CallsIn.mono (aJ5 hcall) ?_
  rintro en w' ⟨ρc,v,hag,rfl,hrv,hpost⟩
  exact hKK ρc v w' hag hrv (hpost.own c6)
 ·exact h.elim
end Sx
end Go
namespace Go.Proofs
open Go.Sx
theorem bO3(num:Int)(h1:Jf num 1 6=true){rows:List (List Int)}{i:Nat}{row:List Int}(hi:rows[i]? = some row)(hb:row.length≤9223372036854775807)(he:Yo row≠0) :
 Triple Tryz.prog 51 [iv .i64 num, .c (.ghost 0 i)] [(0,false, .box (KE rows))] 1 (.tup [.inl (.v (.pointer none)), .inl (.v (.int .i64 (Yo row)))]) []:=by
 have T:=bf3 num h1 row hb he;refine⟨T.enter, ?_⟩;intro ρ w vals hv hH;obtain⟨ρf,hcall⟩:=bE3 T (hH.reg 0 false _ rfl) (hH.valid 0 false _ rfl) hi hv;intro cs;obtain⟨e,w',fr,⟨ρ',v,he',hrel,hb',hS⟩,hrest⟩:=hcall cs;refine⟨e,w',fr,⟨ρ,v,fun _ _=>rfl,he',SV.rel_agree (fun k hk=>by cases hk) hrel, ?_⟩,hrest⟩;exact { frm:=hS.frm,reg:=fun k own o hk=>(by cases hk),apart:=fun k k' o own' o' _ hk=>(by cases hk),fresh:=fun k o hk=>(by cases hk),valid:=fun k own o hk=>(by cases hk) }
theorem cy7(r:Rg)(w:World):(Wm []).Φ r w :=
 ⟨fun _=>fun _=>⟨0,0,0,[]⟩,fun _=>[],⟨⟨fun i D hi=>by simp at hi,fun i D k o i' D' k' o' b hi=>by simp at hi⟩,fun i D hi=>by simp at hi,fun i D k o b hi=>by simp at hi⟩⟩
theorem Triple.emptyBox{P:Program}{f:FuncId}{args:List SV}{pre:Je}{np:Nat}{r:SV}{post:Je}{kb:Nat}{bx:Bx}(T:Triple P f args pre np r post)(hkb:np≤kb)(hbx:∀w,bx.Φ ⟨0,0,0,[]⟩ w)
 (hpost:∀j own o,Sx.look post j=some (own,o)→j≠kb∧o.uses [kb]=false) (hr:r.uses [kb]=false):Triple P f args pre np r ((kb,true, .box bx)::post) where
 enter:=T.enter
 h ρ w vals hv hH:=by
  intro cs;obtain⟨e,w',fr,⟨ρ',v,hb,he,hrel,hS⟩,hrest⟩:=T.h ρ w vals hv hH cs;refine⟨e,w',fr,⟨Ya ρ' kb ⟨0,0,0,[]⟩,v,fun j hj=>by rw[Jx (by omega)];exact hb j hj,he,SV.rel_upd' hrel hr, ?_⟩,hrest⟩;have hroom:¬0<(SO.box bx).room (Ya ρ' kb ⟨0,0,0,[]⟩ kb):=by rw[Jq];show ¬0<0;omega
  have hl:∀j own o,Sx.look ((kb,true,SO.box bx)::post) j=some (own,o)→(j=kb∧own=true∧o=.box bx)∨(j≠kb∧Sx.look post j=some (own,o)):=by
   intro j own o hj;rw[Jh]at hj;by_cases hjk:j=kb
   ·rw[if_pos hjk]at hj;cases hj;exact .inl ⟨hjk,rfl,rfl⟩
   ·rw[if_neg hjk]at hj;exact .inr ⟨hjk,hj⟩
  refine { frm:=hS.frm,reg:=?_,apart:=?_,fresh:=?_,valid:=?_ }
  ·intro j own o hj;rcases hl j own o hj with ⟨rfl,rfl,rfl⟩|⟨hjk,hj⟩
   ·exact {
     wf := trivial, at_ := fun i j c hc => by simp[SO.cell?]at hc, room := fun _ _ hb => absurd rfl (hb _), off0 := fun _ => by rw[Jq], keys := fun Φ hΦ => (by cases hΦ),
     boxed:=fun b0 hb0=>(by cases hb0;rw[Jq];exact hbx w'),fixd:=fun n hn=>(by cases hn),typd:=fun t ht=>(by cases ht) }
   ·exact(hS.reg j own o hj).asg (Jx hjk) fun n hn=>Jx (fun hnk=>by have:=(hpost j own o hj).2;rw[←hnk,hn]at this;cases this)
  ·intro j j' o own' o' hne hj hj' hr1 hr2 b hb1 hb2;rcases hl j true o hj with ⟨rfl,_,rfl⟩|⟨hjk,hj⟩
   ·exact hroom hr1
   ·rcases hl j' own' o' hj' with ⟨rfl,_,rfl⟩|⟨hjk',hj'⟩
    ·exact hroom hr2
    ·rw[Jx hjk]at hr1 hb1;rw[Jx hjk']at hr2 hb2;exact hS.apart j j' o own' o' hne hj hj' hr1 hr2 b hb1 hb2
  ·intro j o hj hr1 b hb1;rcases hl j true o hj with ⟨rfl,_,rfl⟩|⟨hjk,hj⟩
   ·exact absurd hr1 hroom
   ·rw[Jx hjk]at hr1 hb1;exact hS.fresh j o hj hr1 b hb1
  ·intro j own o hj hr1 b hb1;rcases hl j own o hj with ⟨rfl,_,rfl⟩|⟨hjk,hj⟩
   ·exact absurd hr1 hroom
   ·rw[Jx hjk]at hr1 hb1;exact hS.valid j own o hj hr1 b hb1
theorem bb3(l:List Vj)(hl:SmpOK l)(lease:Int)(hle:Jf lease 1 1000=true) :
 Triple Tryz.prog 50 [.c (.s 0 0 l.length 3),iv .i64 lease] [(0,false, .arr (KU l))] 1 (.tup [.inl (.p 1 0 0 0), .inl (.v (.int .i64 0))]) [(3,true, .box (Wm [])),(1,true,VZ 2 (al9 lease l)),(2,true,Jw true 2 (knF l))] :=
 Triple.emptyBox (bi4 l hl lease hle) (by omega) (fun w=>cy7 _ w) (fun j own o hj=>by
  have:=Qd hj;simp only[List.mem_cons,Prod.mk.injEq,List.not_mem_nil,or_false]at this;rcases this with ⟨rfl,_,rfl⟩|⟨rfl,_,rfl⟩
  ·exact⟨by omega,rfl⟩
  ·exact⟨by omega,rfl⟩) rfl
end Go.Proofs
namespace Go
namespace Sx
def bu4(τ:List (Nat×Nat))(s:St)(nl:Nat)(dead:List Nat)(st:List (Nat×SV))(hp:Je)(s':St):Prop :=
 bif ap6 s.nx τ&&(VF (VO (JM τ) (keys hp))&&(XR (s.nx+nl) (an2 st)&&(XR (s.nx+nl) (Vl hp)&&(at7 s.nx dead τ (keys hp)&&XR s.nx dead))))then
  Gy (Vu s'.nx τ) fun nl'=>bm1 nl' (JM τ) st s'.e∧aq2 nl' s'.H (JM τ) hp else False
def ca1(τ:List (Nat×Nat))(cx:Cx)(B:Tabs)(b:Code)(Q:Exit→St→Prop)(s:St){G:Type}(nl:Nat)(dead:List Nat)(st:G→List (Nat×SV))(hp:G→Je)(I:G→Prop)(μ:G→Nat):Prop :=
 XY (al7 b 0) fun m=>bif aY4 m cx.md then
  (∃g,I g∧bu4 τ s nl dead (st g) (hp g) s) ∧
  (∀g,I g→∀ρ t0,(∀k,k<cx.n0→ρ k=cx.ρ0 k)→aO5 s m nl dead (st g) (hp g) fun s1=>vc (lcx cx s.nx m ρ t0) B b (fun ex s'=>match ex with
   | .normal=>∃g',I g'∧μ g'<μ g∧cr2 s nl dead (st g') (hp g') s'
   |ex=>Q ex s') s1)
 else False
theorem cn2{τ:List (Nat×Nat)}{cx:Cx}{ρ ρ':Jn}{s s':St}{a a':Act}{w w':World}{m nl:Nat}{dead:List Nat}{st:List (Nat×SV)}{hp:Je}
 (hs:Sat cx ρ s a w) (hs':Sat (lcx cx s.nx m ρ a.tmps) ρ' s' a' w') (hE:bu4 τ s nl dead st hp s')
 (hbase:∀k,k<s.nx→k∉keys hp→k∉dead→look s'.H k=look s.H k) (hmk:s'.e.marks=s.e.marks):∃ρ'',Sat (lcx cx s.nx m ρ a.tmps) ρ'' (KP s m nl dead st hp) a' w':=by
 simp only[bu4,ac9]at hE;obtain⟨hc,hst,hhp⟩:=YS hE;simp only[Bool.and_eq_true]at hc;obtain⟨c1,c2,c3,c4,c5,c6⟩:=hc;have c3:=Xj.1 c3;have c4:=Xj.1 c4;have c5:=aJ7 c5;have c6:=Xj.1 c6;have hinj:=ad0 c2;have hid:∀k,k<s.nx→JM τ k=k:=fun k hk=>bp2 c1 hk;obtain⟨ρn,hρn⟩:∃ρn:Jn,ρn=fun k=>if k∈Vu s'.nx τ then⟨0,0,0,[]⟩else ρ' k:=⟨_,rfl⟩
 have hin:∀k,k∈Vu s'.nx τ→ρn k=⟨0,0,0,[]⟩:=fun k hk=>by rw[hρn];simp only;rw[if_pos hk]
 have hlow:∀k,k<s'.nx→ρn k=ρ' k:=fun k hk=>by
  rw[hρn];simp only;rw[if_neg fun hm=>by have:=aj9 hm;omega]
 have hnn:aB1 ρn (Vu s'.nx τ):=fun k hk=>by rw[hin k hk]
 have hnx:s.nx≤s'.nx:=hs'.n0;have hreg:∀k own o,look s'.H k=some (own,o)→SatO ρn w' k own o∧ρn k=ρ' k:=fun k own o hl=>by
  have hb:=hs'.bnd.heap k own o hl;exact⟨(hs'.heap.reg k own o hl).asg (hlow k hb.1) (fun n hn=>hlow n (hb.2 n hn)),hlow k hb.1⟩
 have hold:∀k,k<s.nx→ρn (JM τ k)=ρ k:=fun k hk=>by
  rw[hid k hk,hlow k (by omega)];exact hs'.base k hk
 have hcase:∀k own o,look (hp++Gi dead s.H) k=some (own,o) →
  (k∈keys hp∧JM τ k∈Vu s'.nx τ∧aI6 o) ∨
  (∃own' o',look s'.H (JM τ k)=some (own',o')∧(own=true→own'=true)∧ad3 (Vu s'.nx τ) o' (o.ren (JM τ))∧k∈keys hp) ∨
  (own=false∧o=.cells []∧k<s.nx) ∨
  (k<s.nx∧k∉keys hp∧k∉dead∧look s'.H k=some (own,o)∧∀n,o.uses [n]=true→n<s.nx):=by
  intro k own o hl;rw[Yi]at hl;cases h1:look hp k with
  |some x =>
   rw[h1]at hl;simp at hl;subst hl;rcases af9 hhp h1 with ⟨hm,hn⟩|⟨_,own',o',h2,h3,h4⟩
   ·exact .inl ⟨Xm h1,hm,hn⟩
   ·exact .inr (.inl ⟨own',o',h2,h3,h4,Xm h1⟩)
  |none =>
   rw[h1]at hl;simp only[Option.none_or]at hl;rw[an3]at hl;by_cases hd:k∈dead
   ·rw[if_pos hd]at hl;simp at hl;exact .inr (.inr (.inl ⟨hl.1,hl.2.symm,c6 k hd⟩))
   ·rw[if_neg hd]at hl;have hb:=hs.bnd.heap k own o hl;have hkk:k∉keys hp:=fun hk=>by obtain⟨x,hx⟩:=GP hk;rw[hx]at h1;cases h1
    exact .inr (.inr (.inr ⟨hb.1,hkk,hd,by rw[hbase k hb.1 hkk hd];exact hl,hb.2⟩))
 have hsrc:∀k own o,look (hp++Gi dead s.H) k=some (own,o)→0<o.room (ρn (JM τ k)) →
  ∃own' o',look s'.H (JM τ k)=some (own',o')∧(own=true→own'=true)∧o'.room (ρ' (JM τ k))=o.room (ρn (JM τ k))∧ρn (JM τ k)=ρ' (JM τ k) ∧
   (k∈keys hp∨(k<s.nx∧k∉keys hp∧k∉dead))∧∀r,o.fp r=o'.fp r:=by
  intro k own o hl hr;rcases hcase k own o hl with ⟨_,hm,hn⟩|⟨own',o',h1,h2,h3,h4⟩|⟨_,rfl,_⟩|⟨h1,h2,h3,h4,_⟩
  ·rw[(KH (ρ:=fun k=>ρn (JM τ k)) (w:=w') (own:=true) hn (hin _ hm)).2]at hr;omega
  ·have e:=(hreg _ _ _ h1).2;exact⟨own',o',h1,h2,by rw[e,←GT h3,SO.ren_room],e, .inl h4,WW h3⟩
  ·simp[SO.room]at hr
  ·have e:=(hreg _ _ _ h4).2;rw[hid k h1];exact⟨own,o,h4,id,by rw[e],e, .inr ⟨h1,h2,h3⟩,fun _=>rfl⟩
 have hne:∀k own o k' own' o',look (hp++Gi dead s.H) k=some (own,o)→look (hp++Gi dead s.H) k'=some (own',o')→k≠k' →
  (k∈keys hp∨(k<s.nx∧k∉keys hp∧k∉dead))→(k'∈keys hp∨(k'<s.nx∧k'∉keys hp∧k'∉dead))→JM τ k≠JM τ k':=by
  intro k own o k' own' o' _ _ hkk h1 h2 he;rcases h1 with h1|⟨h1,h1',h1''⟩ <;> rcases h2 with h2|⟨h2,h2',h2''⟩
  ·exact hkk (hinj k h1 k' h2 he)
  ·rw[hid k' h2]at he;rcases c5 k h1 with h3|h3|h3
   ·exact hkk (h3.symm.trans he)
   ·omega
   ·rw[he]at h3;exact h2'' h3
  ·rw[hid k h1]at he;rcases c5 k' h2 with h3|h3|h3
   ·exact hkk (he.trans h3)
   ·omega
   ·rw[←he]at h3;exact h1'' h3
  ·rw[hid k h1,hid k' h2]at he;exact hkk he
 refine⟨fun k=>ρn (JM τ k),hs'.size, ?_, ?_,⟨hs'.heap.frm, ?_, ?_, ?_, ?_⟩,⟨?_, ?_, ?_⟩, ?_,hs'.keep,Nat.le_add_right _ _⟩
 ·rw[hs'.defers,hmk];simp only[KP,GU,Env.marks];refine(Vt fun k hk=>?_).symm;have h1:=hs.bnd.mks k hk;rw[hid k h1,hlow k (by omega)]
 ·intro i;simp only[KP];rcases ad7 (st:=st) (e:=.mask m s.e) (i:=i)with ⟨v,hv,he⟩|he
  ·rw[he];refine SV.ren_rel.1 (at3 hnn (aJ6 hst i v hv) ?_);exact SV.rel_agree (fun k hk=>hlow k (hs'.bnd.env i k hk)) (hs'.env i)
  ·rw[he,UV];by_cases hb:XB m i=true
   ·rw[if_pos hb];trivial
   ·rw[if_neg hb];have:=hs'.keep i (by simp[lcx,af2,hb]);rw[this];exact SV.rel_agree (fun k hk=>hold k (hs.bnd.env i k hk)) (hs.env i)
 ·intro k own o hl;rcases hcase k own o hl with ⟨_,hm,hn⟩|⟨own',o',h1,h2,h3,h4⟩|⟨rfl,rfl,_⟩|⟨h1,h2,h3,h4,h5⟩
  ·exact(KH (ρ:=fun k=>ρn (JM τ k)) hn (hin _ hm)).1
  ·exact(aq1 hnn h3 ((hreg _ _ _ h1).1.less' h2)).of_ren
  ·exact GM _ _ _
  ·refine(hreg _ _ _ h4).1.asg ?_ (fun n hn=>?_)
   ·rw[hid k h1]
   ·rw[hid n (h5 n hn)]
 ·intro k k' o own' o' hkk hl hl' hr hr';obtain⟨own1,o1,h1,h2,h3,h4,h5,h6⟩:=hsrc k true o hl hr;obtain⟨own2,o2,h1',h2',h3',h4',h5',h6'⟩:=hsrc k' own' o' hl' hr';have:=h2 rfl;subst this;simp only[h4,h4',h6,h6'];exact hs'.heap.apart _ _ _ _ _ (hne k _ _ k' _ _ hl hl' hkk h5 h5') h1 h1' (by rw[h3];exact hr) (by rw[h3'];exact hr')
 ·intro k o hl hr;obtain⟨own1,o1,h1,h2,h3,h4,h5,h6⟩:=hsrc k true o hl hr;have:=h2 rfl;subst this;simp only[h4,h6];exact hs'.heap.fresh _ _ h1 (by rw[h3];exact hr)
 ·intro k own o hl hr;obtain⟨own1,o1,h1,h2,h3,h4,h5,h6⟩:=hsrc k own o hl hr;simp only[h4,h6];exact hs'.heap.valid _ _ _ h1 (by rw[h3];exact hr)
 ·intro i k hk;simp only[KP]at hk ⊢;rcases ad7 (st:=st) (e:=.mask m s.e) (i:=i)with ⟨v,hv,he⟩|he
  ·rw[he]at hk;exact c3 k (ak5 hv (SV.uses_nms.1 hk))
  ·rw[he,UV]at hk;by_cases hb:XB m i=true
   ·rw[if_pos hb]at hk;simp[SV.uses,SC.uses,SC.nms,Jy]at hk
   ·rw[if_neg hb]at hk;have:=hs.bnd.env i k hk;omega
 ·intro k hk;simp only[KP,GU,Env.marks]at hk ⊢;have:=hs.bnd.mks k hk;omega
 ·intro k own o hl;simp only[KP]at hl ⊢;rw[Yi]at hl;cases h1:look hp k with
  |some x =>
   rw[h1]at hl;simp at hl;subst hl;have:=VP h1;exact⟨c4 k this.1,fun n hn=>c4 n (this.2 n (SO.uses_nms.1 hn))⟩
  |none =>
   rw[h1]at hl;simp only[Option.none_or]at hl;rw[an3]at hl;by_cases hd:k∈dead
   ·rw[if_pos hd]at hl;simp at hl;obtain⟨_,rfl⟩:=hl;exact⟨by have:=c6 k hd;omega,fun n hn=>by simp[SO.uses,XP]at hn⟩
   ·rw[if_neg hd]at hl;have hb:=hs.bnd.heap k own o hl;exact⟨by omega,fun n hn=>by have:=hb.2 n hn;omega⟩
 ·intro k hk;exact hold k hk
theorem bb4(τ:List (Nat×Nat)){cx:Cx}{B:Tabs}(hB:TabsOK cx.P B){b:Code}{Q:Exit→St→Prop}{s:St}{G:Type}(nl:Nat)(dead:List Nat)(st:G→List (Nat×SV))(hp:G→Je)(I:G→Prop)(μ:G→Nat)
 (h:ca1 τ cx B b Q s nl dead st hp I μ):Sound cx (.loop b) Q s:=by
 refine⟨fun ρ a w hs QQ hQ=>?_⟩;simp only[ca1,WQ]at h;generalize al7 b 0=m at h;obtain⟨hm,⟨g0,hg0,h0⟩,hstep⟩:=YS h;simp only[aY1]at hstep;have hs1:Sat (lcx cx s.nx m ρ a.tmps) ρ s a w :=
  { size:=hs.size,defers:=hs.defers,env:=hs.env,heap:=hs.heap,bnd:=hs.bnd,base:=fun _ _=>rfl,keep:=fun _ _=>rfl,n0:=Nat.le_refl _ }
 obtain⟨ρ1,h1⟩:=cn2 hs hs1 h0 (fun _ _ _ _=>rfl) rfl;refine wpIn_loop_rounds (μ g0+1) ?_;have key:∀n g ρ' a' w',μ g<n→I g→Sat (lcx cx s.nx m ρ a.tmps) ρ' (KP s m nl dead (st g) (hp g)) a' w'→Code.roundsIn (WF cx.rd) 0 cx.P b QQ n a' w':=by
  intro n
  induction n with
  |zero=>intro g ρ' a' w' h;omega
  |succ n ih =>
   intro g ρ' a1 w1 hlt hg hsat;refine(Vm (cx:=lcx cx s.nx m ρ a.tmps) hB b _ _ (hstep g hg ρ a.tmps hs.base)).h ρ' a1 w1 hsat _ ?_;intro ex s' ρ2 a2 w2 hq hs2;cases ex with
   |normal =>
    obtain⟨g',hg',hlt',hback⟩:=hq;obtain⟨hf,hd,hK⟩:=YS hback;simp only[Bool.and_eq_true]at hf;obtain⟨ρ3,h3⟩:=be7 hs hs2 hK (aB9 hf.1 hd) (ao3 hf.2);exact ih g' ρ3 a2 w2 (by omega) hg' h3
   |_=>exact hQ _ _ _ _ _ hq (hs.out hm hs2)
 exact key _ g0 ρ1 a w (Nat.lt_succ_self _) hg0 h1
end Sx
end Go
namespace Go
namespace Sx
def bu5(k:Nat)(e:Env):List (Nat×Operand)→Bool
 | []=>false
 |p::r=>bif (ev e p.2).uses [k]then true else bu5 k e r
def bm7(e:Env)(ps:List (Nat×Operand)):List Nat→Bool
 | []=>true
 |k::r=>bif bu5 k e ps then bm7 e ps r else false
theorem bu6{k:Nat}{e:Env}:∀ {ps:List (Nat×Operand)},bu5 k e ps=true→∃p∈ps,(ev e p.2).uses [k]=true
 | [],h=>by cases h
 |p::r,h=>by
  simp only[bu5]at h;cases hu:(ev e p.2).uses [k]with
  |true=>exact⟨p,List.mem_cons_self ..,hu⟩
  |false =>
   rw[hu]at h;obtain⟨q,hq,h2⟩:=bu6 h;exact⟨q,List.mem_cons_of_mem _ hq,h2⟩
theorem bi7{e:Env}{ps:List (Nat×Operand)}:∀ {l:List Nat} {k:Nat},bm7 e ps l=true→k∈l→∃p∈ps,(ev e p.2).uses [k]=true
 | [],_,_,h=>by cases h
 |j::r,k,h,hk=>by
  simp only[bm7]at h;cases hu:bu5 j e ps with
  |false=>rw[hu]at h;cases h
  |true =>
   rw[hu]at h;rcases List.mem_cons.1 hk with rfl|hk
   ·exact bu6 hu
   ·exact bi7 h hk
def cK7(B:Tabs)(A:Arr)(e:Env)(t:TypeId)(len:Nat)(ps:List (Nat×Operand))(nx:Nat)(K:Eff→Prop):Prop :=
 bif bm7 e ps A.nm then bsK B A e t len ps nx K else False
theorem bu7{cx:Cx}{B:Tabs}(hB:TabsOK cx.P B){o:Oper}{e:Env}{H:Je}{nx:Nat}{K:Eff→Prop}{t:TypeId}{len:Nat}{parts:Array (Nat×Operand)}(A:Arr)
 (ho:o.op=.buildSlice t len parts) (h:cK7 B A e t len parts.toList nx K) (hfx:A.fx=none:=by rfl) (hty:A.ty=none:=by rfl):∃F,CallOK cx o e H nx F∧K F:=by
 have hmem:∀p∈parts.toList,p.2∈o.op.operands.toList:=fun p hp=>by
  simp[ho,Op.operands];exact⟨p.1,by simpa using hp⟩
 obtain⟨hall,h⟩:=YS h;unfold bsK at h;split at h
 ·rename_i el s0 b0 z0 ht
  split at h
  ·rename_i ti hti
   split at h
   ·rename_i l hl
    obtain⟨hb,⟨hlen,hent⟩,hK⟩:=YS h;simp only[Bool.and_eq_true]at hb;have hb1:=Nat.eq_of_beq_eq_true hb.1;have hb2:=Nat.le_of_ble_eq_true hb.2.1;have hb3:=Nat.le_of_ble_eq_true hb.2.2;refine⟨_,⟨Ws (by simp[ho]) af6 ?_ ?_,fun j hj=>by simp at hj;subst hj;simp⟩,hK⟩
    ·intro n' hn' j hj;obtain⟨k,hk,hjk⟩:=Qm.1 (show Jy [j] A.nm=true from hj);simp only[List.mem_singleton]at hjk;subst hjk;obtain⟨p,hp,hu⟩:=bi7 hall hk;exact(Qy (hmem p hp) hn') k hu
    ·intro ρ a w hr hfr;obtain⟨i,z,hi,hz,hisz,hiby,hzz⟩:=Gg hB hti;have hr':∀p∈parts.toList,(ev e p.2).rel (Ya ρ nx ⟨w.heap.size,0,len,[]⟩) (a.eval p.2):=by
      intro p hp;refine SV.rel_upd' (Jg (hmem p hp) hr) ?_;have hm:=hmem p hp;cases hx:p.2 with
      |tmp t=>rw[hx]at hm;exact hfr t hm
      |const v=>exact ap0 v _
      |global g=>simp[ev,SV.uses,SC.uses,SC.nms,Jy]
      |func g=>simp[ev,SV.uses,SC.uses,SC.nms,Jy]
     have hinit:((Array.range (len*i.size)).map (z.cells[· % z.cells.size]!)).size=len*ti.size:=by simp[hisz]
     obtain⟨out,hout,hrel⟩:=aU5 (ρ:=Ya ρ nx ⟨w.heap.size,0,len,[]⟩) (a:=a) (e:=e) (sz:=ti.size) parts.toList (aY6 (len*ti.size)) ((Array.range (len*i.size)).map (z.cells[· % z.cells.size]!)) l
      (by have:=@aJ9 (Ya ρ nx ⟨w.heap.size,0,len,[]⟩) ((Array.range (len*i.size)).map (z.cells[· % z.cells.size]!)).toList;rwa[Array.length_toList,hinit]at this) hr' hl
     have hlo:=Xu hrel;have hrelA:=aJ8 hent hrel;have hlA:=Xu hrelA;have hencl:∀xs:List A.α,(GV A xs).length=xs.length*A.sz:=by
      intro xs;induction xs with
      |nil=>simp[GV]
      |cons x r ih=>simp only[GV,List.length_append,ih,A.hl,List.length_cons,Nat.add_mul];omega
     refine⟨.slice (some ⟨w.heap.size,0,none⟩) len len, .cells out el (0,0),len, ?_, ?_,VN (by omega) ?_ ?_ (fun n h=>by rw[hfx]at h;cases h) (fun n h=>by rw[hty]at h;cases h)⟩
     ·have hsz:(sizeOf el).run cx.P w=.ok i.size w:=by simp[sizeOf,typeInfo,hi]
      have hle:¬(len*i.size>2 ^ 24):=by rw[hisz];omega
      have h2:(Array.map (fun x=>(x.fst,a.eval x.snd)) parts).toList=parts.toList.map fun p=>(p.1,a.eval p.2):=by simp
      simp only[execOp,ho,Instr.buildSlice,Sem.run_bind,run_underlying (QX hB ht),Result.andThen_ok,hsz,if_neg hle,h2];by_cases h0:len*i.size=0
      ·have hl0:len=0:=by
        rcases Nat.mul_eq_zero.1 h0 with h|h
        ·exact h
        ·omega
       subst hl0;simp only[Nat.zero_mul,if_true,Sem.run_pure,Result.andThen_ok];simp only[Nat.zero_mul]at hout;rw[←hisz]at hout;have e0:(Array.map (fun x=>(#[]:Array Value)[x%(#[]:Array Value).size]!) (Array.range 0))=(Array.map (fun x=>z.cells[x%z.cells.size]!) (Array.range 0)):=by simp
       simp only[e0,hout,Sem.run_bind,newRow,newObj,Sem.run,Result.andThen_ok,Sem.run_pure];rfl
      ·have hzr:(zeroValue el).run cx.P w=.ok z w:=by simp[zeroValue,typeInfo,hi,hz]
       rw[←hisz]at hout;simp only[if_neg h0,Sem.run_bind,hzr,Result.andThen_ok,Sem.run_pure,hout,newRow,newObj,Sem.run];rfl
     ·simp only[SV.rel,SC.rel,Jq,Nat.sub_zero,Nat.zero_mul,Nat.zero_add];exact⟨_,rfl,Nat.le_refl _,fun _=>by simp[Jr,Jq]⟩
     ·rw[hencl]at hlA;rw[←hlen];simpa using hlA.symm
     ·intro i' xx hxx j d hd;obtain⟨v,hv,hvr⟩:=GO hrelA (aC0 hxx hd);exact⟨v,by simpa using hv,hvr⟩
   ·exact h.elim
  ·exact h.elim
 ·exact h.elim
end Sx
end Go
namespace Go.Proofs
open Go.Sx
def aGs(kb n:Nat):Arr:=⟨Nat,1,fun i=>[.ghost kb i],[kb],fun _=>rfl,(by
 intro x c hc j hj
 rw[List.mem_singleton.1 hc]at hj
 simpa [SC.nms] using hj),List.range n,none,none⟩
theorem aP6{σ:Nat→Nat}{k k' n:Nat}(h:σ k=k'):aGs k' n=(aGs k n).ren σ:=by
 subst h;exact Un (funext fun x=>rfl) rfl
theorem ca2{kb n i:Nat}:∀hz,(aGs kb n).xs[JO 0 i]'hz=i:=fun hz=>by
 have h2:(List.range n)[JO 0 i]? = some ((List.range n)[JO 0 i]'hz):=List.getElem?_eq_getElem hz;have h3:(List.range n)[JO 0 i]? = some (JO 0 i):=List.getElem?_range (by simpa using (show JO 0 i<(List.range n).length from hz));rw[Qc,Nat.zero_add]at h3;have h4:(List.range n)[JO 0 i]? = some i:=by rw[Qc,Nat.zero_add];exact h3
 exact Option.some.inj (h2.symm.trans h4)
def ah4(rooms:List (List Int))(i:Nat):List Sd:=(List.range i).map fun(j:Nat)=>VC ((j:Int)+1) (rooms.getD j [])
theorem ar6(rooms:List (List Int))(i:Nat):(ah4 rooms i).length=i:=by simp[ah4]
theorem bi8{rooms:List (List Int)}{i:Nat}{row:List Int}(h:rooms[i]? = some row):ah4 rooms (i+1)=ah4 rooms i++[VC ((i:Int)+1) row]:=by
 unfold ah4;rw[List.range_succ,List.map_append];simp[List.getD,h]
def aM1(rooms:List (List Int)):Int:=match rooms.find? fun r=>Yo r != 0 with
 |some r=>Yo r
 |none=>0
theorem ca3{rooms:List (List Int)}{i:Nat}{row:List Int}(h:rooms[i]? = some row)(hb:Yo row≠0)(hp:∀r∈rooms.take i,Yo r=0):aM1 rooms=Yo row:=by
 have hi:=(List.getElem?_eq_some_iff.1 h).1;have e:rooms=rooms.take i++row::rooms.drop (i+1):=by
  have h1:rooms.drop i=row::rooms.drop (i+1):=by rw[List.drop_eq_getElem_cons hi,(List.getElem?_eq_some_iff.1 h).2]
  rw[←h1,List.take_append_drop]
 have hf:rooms.find? (fun r=>Yo r != 0)=some row:=by
  rw[e,List.find?_append];have:(rooms.take i).find? (fun r=>Yo r != 0)=none:=List.find?_eq_none.2 fun x hx=>by simp[hp x hx]
  rw[this];simp[hb]
 unfold aM1;rw[hf]
theorem cE8{rooms:List (List Int)}(h:∃r∈rooms,Yo r≠0)(hp:∀r∈rooms,Yo r=0):False:=by
 obtain⟨r,hr,hne⟩:=h;exact hne (hp r hr)
abbrev az4(l:List Vj)(rooms:List (List Int)):Je:=[(0,false, .arr (KU l)),(1,false, .arr (aGs 2 rooms.length)),(2,false, .box (KE rooms))]
abbrev ao6(l:List Vj)(lease:Int)(rooms:List (List Int)):List SV:=[.c (.s 0 0 l.length 3),iv .i64 lease, .c (.s 1 0 rooms.length 1)]
theorem bu8(l:List Vj)(lease:Int)(hle:Jf lease 1 1000=false)(rooms:List (List Int)) :
 Triple Tryz.prog 16 (ao6 l lease rooms) (az4 l rooms) 3 (.tup [.inl (.v (.pointer none)), .inl (.v (.int .i64 1))]) []:=by
 refine Jc Ja Tryz.func16 rfl Tryz.call16 rfl ?_;intro ρ w hH;conv=>whnf
 refine Jb (by9 l lease hle) rfl rfl ?_;conv=>whnf
 refine cs ?_;conv=>whnf
 repeat ((first|refine qT fun hc=>?_|refine qF fun hc=>?_);conv=>whnf)
 exact cl
theorem bO4(l:List Vj)(hl:SmpOK l)(lease:Int)(hle:Jf lease 1 1000=true)(rooms:List (List Int))(hn:Jf rooms.length 1 6=false) :
 Triple Tryz.prog 16 (ao6 l lease rooms) (az4 l rooms) 3 (.tup [.inl (.v (.pointer none)), .inl (.v (.int .i64 2))]) []:=by
 have hw:=JA rooms.length 1 6;rw[hn]at hw;refine Jc Ja Tryz.func16 rfl Tryz.call16 rfl ?_;intro ρ w hH;conv=>whnf
 refine Jb (bi4 l hl lease hle) rfl rfl ?_;conv=>whnf
 refine cs ?_;conv=>whnf
 repeat ((first|refine qT fun hc=>?_|refine qF fun hc=>?_);conv=>whnf)
 refine Jb hw rfl rfl ?_;conv=>whnf
 refine cs ?_;conv=>whnf
 repeat ((first|refine qT fun hc=>?_|refine qF fun hc=>?_);conv=>whnf)
 exact cl
theorem cI9(l:List Vj)(hl:SmpOK l)(lease:Int)(hle:Jf lease 1 1000=true)(rooms:List (List Int))(hn:Jf rooms.length 1 6=true)(hok:∀r∈rooms,Yo r=0) :
 Triple Tryz.prog 16 (ao6 l lease rooms) (az4 l rooms) 3 (.tup [.inl (.p 3 0 0 0), .inl (.v (.int .i64 0))])
  [(3,true, .cells [.p 4 0 0 0, .s 5 0 rooms.length 1, .v (.int .i64 0), .s 6 0 0 7, .v (.int .i64 0), .m 7]),(4,true,VZ 8 (al9 lease l)),(5,true, .arr (UO 9 rooms.length)),(6,true, .arr (Xw [])),(7,true,Jw false 2 Mp.nil),(8,true,Jw true 2 (knF l)),(9,true, .box (Wm (ah4 rooms rooms.length)))]:=by
 have hw:=JA rooms.length 1 6;rw[hn]at hw;have hn6:rooms.length≤6:=by simp[Jf]at hn;omega
 refine Jc Ja Tryz.func16 rfl Tryz.call16 rfl ?_;intro ρ w hH;conv=>whnf
 refine Jb (bb3 l hl lease hle) rfl rfl ?_;conv=>whnf
 refine cs ?_;conv=>whnf
 repeat ((first|refine qT fun hc=>?_|refine qF fun hc=>?_);conv=>whnf)
 refine Jb hw rfl rfl ?_;conv=>whnf
 refine cs ?_;conv=>whnf
 repeat ((first|refine qT fun hc=>?_|refine qF fun hc=>?_);conv=>whnf)
 refine ac1 false 2 rfl ?_;conv=>whnf
 refine bb4 [(8,8),(9,5)] Ja (G:=Nat) 2 [5] (fun i=>[(36,iv .i64 i)]) (fun i=>[(7,true, .cells [.p 3 0 0 0, .s 8 0 i 1, .v (.int .i64 0), .v KJ, .v (.int .i64 0), .m 6]),(8,true, .arr (UO 9 i)),(9,true, .box (Wm (ah4 rooms i)))])
  (fun i=>i≤rooms.length∧∀r∈rooms.take i,Yo r=0) (fun i=>rooms.length-i) ?_
 conv=>whnf
 refine⟨⟨0,⟨Nat.zero_le _,fun r hr=>by simp at hr⟩, ?_⟩, ?_⟩
 ·conv=>whnf
  exact cl
 intro i ⟨hi,hp⟩ ρ1 t1 hρ1;have hi:i≤rooms.length:=hi;have hp:∀r∈rooms.take i,Yo r=0:=hp;conv=>whnf
 refine⟨fun hc=>?_,fun hc=>?_⟩
 rotate_left
 ·have hie:i=rooms.length:=by have:=of_decide_eq_false hc;omega
  subst hie;rw[List.take_length]at hp;conv=>whnf
  exact cl
 have h:i<rooms.length:=by have:=of_decide_eq_true hc;omega
 have hrow:rooms[i]? = some rooms[i]:=List.getElem?_eq_getElem h;generalize rooms[i]=row at hrow;have hwi:Jf ((i:Int)+1) 1 6=true:=by simp[Jf];omega
 conv=>whnf
 refine⟨i,rfl,h,(by show i<(List.range rooms.length).length;simpa using h), ?_⟩;conv=>whnf
 erw[ca2];refine⟨_,wO, ?_⟩;conv=>whnf
 by_cases he:Yo row=0
 ·have hT:=bu3 ((i:Int)+1) hwi hrow he (ah4 rooms i);rw[←bi8 hrow]at hT;simp only[aP5,bb2,ar6]at hT;refine aE6 [(0,2),(1,8),(2,9)] hT rfl rfl ?_;conv=>whnf
  refine⟨cl,cl2, ?_⟩;conv=>whnf
  rw[←VW rfl];conv=>whnf
  repeat ((first|refine qT fun hc=>?_|refine qF fun hc=>?_);conv=>whnf)
  refine bu7 Ja ((UO 10 i).setXs [i]) rfl ?_;conv=>whnf
  refine⟨⟨rfl,cl⟩, ?_⟩;conv=>whnf
  have e:(List.range i).take i++(([i]:List Nat).drop 0).take 1=List.range (i+1):=by
   rw[List.take_of_length_le (by simp),List.range_succ];rfl
  refine VG Ja (UO 10 i) [i] (List.range (i+1)) (fun _=>rfl) rfl rfl rfl rfl ?_;conv=>whnf
  refine⟨⟨rfl,rfl,(by show i≤(List.range i).length;simp),Nat.le_refl _,by show(i+1)*9≤140737488355328;omega,e⟩, ?_⟩;conv=>whnf
  refine⟨_,wO, ?_⟩;refine⟨i+1,⟨h, ?_⟩,by show rooms.length-(i+1)<rooms.length-i;omega, ?_⟩
  ·intro r hr;rw[JR h]at hr;rcases List.mem_append.1 hr with hr|hr
   ·exact hp r hr
   ·rw[List.mem_singleton.1 hr,(List.getElem?_eq_some_iff.1 hrow).2];exact he
  conv=>whnf
  refine⟨rfl, ?_⟩;conv=>whnf
  repeat' (first|exact(by first|exact VW rfl|exact List.length_range)|exact trivial|exact rfl|refine And.intro ?_ ?_|((conv=>whnf);first|exact(by first|exact VW rfl|exact List.length_range)|exact trivial|exact rfl|refine And.intro ?_ ?_|omega))
 ·exact absurd (hok row (List.mem_of_getElem? hrow)) he
theorem cy8(l:List Vj)(hl:SmpOK l)(lease:Int)(hle:Jf lease 1 1000=true)(rooms:List (List Int))(hn:Jf rooms.length 1 6=true)(hbig:∀r∈rooms,r.length≤9223372036854775807)(hno:∃r∈rooms,Yo r≠0) :
 Triple Tryz.prog 16 (ao6 l lease rooms) (az4 l rooms) 3 (.tup [.inl (.v (.pointer none)), .inl (.v (.int .i64 (aM1 rooms)))]) []:=by
 have hw:=JA rooms.length 1 6;rw[hn]at hw;have hn6:rooms.length≤6:=by simp[Jf]at hn;omega
 refine Jc Ja Tryz.func16 rfl Tryz.call16 rfl ?_;intro ρ w hH;conv=>whnf
 refine Jb (bb3 l hl lease hle) rfl rfl ?_;conv=>whnf
 refine cs ?_;conv=>whnf
 repeat ((first|refine qT fun hc=>?_|refine qF fun hc=>?_);conv=>whnf)
 refine Jb hw rfl rfl ?_;conv=>whnf
 refine cs ?_;conv=>whnf
 repeat ((first|refine qT fun hc=>?_|refine qF fun hc=>?_);conv=>whnf)
 refine ac1 false 2 rfl ?_;conv=>whnf
 refine bb4 [(8,8),(9,5)] Ja (G:=Nat) 2 [5] (fun i=>[(36,iv .i64 i)]) (fun i=>[(7,true, .cells [.p 3 0 0 0, .s 8 0 i 1, .v (.int .i64 0), .v KJ, .v (.int .i64 0), .m 6]),(8,true, .arr (UO 9 i)),(9,true, .box (Wm (ah4 rooms i)))])
  (fun i=>i≤rooms.length∧∀r∈rooms.take i,Yo r=0) (fun i=>rooms.length-i) ?_
 conv=>whnf
 refine⟨⟨0,⟨Nat.zero_le _,fun r hr=>by simp at hr⟩, ?_⟩, ?_⟩
 ·conv=>whnf
  exact cl
 intro i ⟨hi,hp⟩ ρ1 t1 hρ1;have hi:i≤rooms.length:=hi;have hp:∀r∈rooms.take i,Yo r=0:=hp;conv=>whnf
 refine⟨fun hc=>?_,fun hc=>?_⟩
 rotate_left
 ·have hie:i=rooms.length:=by have:=of_decide_eq_false hc;omega
  subst hie;rw[List.take_length]at hp;conv=>whnf
  exact(cE8 hno hp).elim
 have h:i<rooms.length:=by have:=of_decide_eq_true hc;omega
 have hrow:rooms[i]? = some rooms[i]:=List.getElem?_eq_getElem h;generalize rooms[i]=row at hrow;have hwi:Jf ((i:Int)+1) 1 6=true:=by simp[Jf];omega
 conv=>whnf
 refine⟨i,rfl,h,(by show i<(List.range rooms.length).length;simpa using h), ?_⟩;conv=>whnf
 erw[ca2];refine⟨_,wO, ?_⟩;conv=>whnf
 by_cases he:Yo row=0
 ·have hT:=bu3 ((i:Int)+1) hwi hrow he (ah4 rooms i);rw[←bi8 hrow]at hT;simp only[aP5,bb2,ar6]at hT;refine aE6 [(0,2),(1,8),(2,9)] hT rfl rfl ?_;conv=>whnf
  refine⟨cl,cl2, ?_⟩;conv=>whnf
  rw[←VW rfl];conv=>whnf
  repeat ((first|refine qT fun hc=>?_|refine qF fun hc=>?_);conv=>whnf)
  refine bu7 Ja ((UO 10 i).setXs [i]) rfl ?_;conv=>whnf
  refine⟨⟨rfl,cl⟩, ?_⟩;conv=>whnf
  have e:(List.range i).take i++(([i]:List Nat).drop 0).take 1=List.range (i+1):=by
   rw[List.take_of_length_le (by simp),List.range_succ];rfl
  refine VG Ja (UO 10 i) [i] (List.range (i+1)) (fun _=>rfl) rfl rfl rfl rfl ?_;conv=>whnf
  refine⟨⟨rfl,rfl,(by show i≤(List.range i).length;simp),Nat.le_refl _,by show(i+1)*9≤140737488355328;omega,e⟩, ?_⟩;conv=>whnf
  refine⟨_,wO, ?_⟩;refine⟨i+1,⟨h, ?_⟩,by show rooms.length-(i+1)<rooms.length-i;omega, ?_⟩
  ·intro r hr;rw[JR h]at hr;rcases List.mem_append.1 hr with hr|hr
   ·exact hp r hr
   ·rw[List.mem_singleton.1 hr,(List.getElem?_eq_some_iff.1 hrow).2];exact he
  conv=>whnf
  refine⟨rfl, ?_⟩;conv=>whnf
  repeat' (first|exact(by first|exact VW rfl|exact List.length_range)|exact trivial|exact rfl|refine And.intro ?_ ?_|((conv=>whnf);first|exact(by first|exact VW rfl|exact List.length_range)|exact trivial|exact rfl|refine And.intro ?_ ?_|omega))
 ·rw[ca3 hrow he hp];have b0:(Yo row != 0)=true:=by simp[he]
  refine aE6 [(0,2)] (bO3 ((i:Int)+1) hwi hrow (hbig row (List.mem_of_getElem? hrow)) he) rfl rfl ?_;conv=>whnf
  refine cs ?_;conv=>whnf
  repeat ((first|refine qT fun hc=>?_|refine qF fun hc=>?_);conv=>whnf)
  exact cl
end Go.Proofs
