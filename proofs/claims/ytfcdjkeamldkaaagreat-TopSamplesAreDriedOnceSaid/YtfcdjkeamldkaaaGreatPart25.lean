/-
  A part of the proof that a law answers true: lemmas of a symbolic walk, plain functions, or contracts of the functions walked (EZ, Fb, Fd, Fe, Ff, Fa, Fg, Ui). Conditions: none.
-/
import Derived.Test.YtfcdjkeamldkaaaGreatPart24
import Derived.Test.YtfcdjkeamldkaaaGreatPart13
set_option maxRecDepth 100000
set_option linter.unusedVariables false
set_option linter.unusedSimpArgs false
namespace Go.Proofs
open Go.Sx
theorem bf6{k k':Ky}:Qb k=Qb k'↔k=k':=by
 constructor
 ·intro h;exact Prod.ext (List.cons.inj h).1 (List.cons.inj (List.cons.inj h).2).1
 ·rintro rfl;rfl
theorem KM(M:Mp)(k k':Ky)(v:List Int):JP (M.put (Qb k) v) k'=true↔k=k'∨JP M k'=true:=by
 unfold JP;by_cases h:k=k'
 ·subst h;rw[Mp.get_put_self];simp
 ·rw[Mp.get_put_ne _ _ (fun e=>h (bf6.1 e))];simp[h]
theorem bb5(M:Mp)(k k':Ky)(a b c:Int):Ye (M.put (Qb k) [a,b,c]) k'=if k=k' then(a,b,c)else Ye M k':=by
 unfold Ye;by_cases h:k=k'
 ·subst h;rw[Mp.get_put_self,if_pos rfl]
 ·rw[Mp.get_put_ne _ _ (fun e=>h (bf6.1 e)),if_neg h]
theorem bf7(d:Dsk)(k k':Ky)(h:Hd):(upD d k h).has k'=true↔k=k'∨d.has k'=true:=KM d.known k k' (hdL h)
theorem aV6(d:Dsk)(k k':Ky)(h:Hd):(upD d k h).held k'=if k=k' then h else d.held k':=by
 unfold Dsk.held;by_cases e:k=k'
 ·subst e;rw[Mp.get_put_self,if_pos rfl];rfl
 ·rw[Mp.get_put_ne _ _ (fun he=>e (bf6.1 he)),if_neg e]
theorem cn3{M:Mp}(h:∀y∈M.es,y.2.1=[1])(k:List Int):∀y∈(M.put k [1]).es,y.2.1=[1]:=by
 unfold Mp.put;cases hf:M.es.findIdx? (·.1==k)with
 |none =>
  intro x hx;rcases List.mem_append.1 hx with hx|hx
  ·exact h x hx
  ·rw[List.mem_singleton.1 hx]
 |some i =>
  intro x hx;obtain⟨j,hj⟩:=List.getElem?_of_mem (show x∈M.es.modify i _ from hx);rw[List.getElem?_modify]at hj;obtain⟨y,hy,hxy⟩:=Option.map_eq_some_iff.1 hj;by_cases e:i=j
  ·rw[if_pos e]at hxy;rw[←hxy]
  ·rw[if_neg e]at hxy;rw[←hxy];exact h y (List.mem_of_getElem? hy)
structure SdOK (i:Nat) (D:Sd) (own:Ky→Option Int):Prop where
 num:D.num=(i:Int)+1
 sz:D.size.length=D.ovs.length
 len:D.ovs.length≤4
 room:∀z∈D.size,z≤12
 ovl:∀ov∈D.ovs,ov.length≤100
 vals:StnV D.stn
 ovn:∀k,JP D.did k=true→(Ye D.did k).2.1<D.ovs.length
 goes:∀k,JP D.goes k=true→own k=some D.num
 did:∀k,JP D.did k=true→own k=some D.num
structure DkOK (Kp:Ky→Prop) (own:Ky→Option Int) (sent:Int) (d:Dsk):Prop where
 time:0≤d.time∧d.time≤1000000
 last:0≤d.last∧d.last≤sent
 lease:1≤d.lease∧d.lease≤1000
 vals:Yk 5 d.known
 keys:∀k,Kp k→d.has k=true
 own34:∀k,d.has k=true→(d.held k).state=3∨(d.held k).state=4→own k=some (d.held k).station
 own12:∀k,d.has k=true→(d.held k).state=1∨(d.held k).state=2→own k=none
structure SlOK (n:Nat) (own:Ky→Option Int) (s:Slp):Prop where
 st:1≤s.st∧s.st≤n
 go:s.kind=5→own s.k=some s.st
structure WInv (Kp:Ky→Prop) (n:Nat) (own:Ky→Option Int) (b:Wb):Prop where
 len:b.sts.length=n
 n16:1≤n∧n≤6
 sent:0≤b.sent∧b.sent≤300
 mlen:(b.mail.length:Int)≤b.sent
 now:0≤b.now∧b.now≤1000000
 dsk:DkOK Kp own b.sent b.d
 st:∀(i:Nat) (D:Sd),b.sts[i]? = some D→SdOK i D own
 puts:∀y∈b.puts.es,y.2.1=[1]
 putd:∀k,JP b.puts k=true→∃(i:Nat) (D:Sd),b.sts[i]? = some D∧JP D.did k=true
 mail:∀s∈b.mail,SlOK n own s
def aP7(own own':Ky→Option Int):Prop:=∀k x,own k=some x→own' k=some x
theorem SdOK.mono{i:Nat}{D:Sd}{own own':Ky→Option Int}(h:SdOK i D own)(ho:aP7 own own'):SdOK i D own' :=
 {h with goes:=fun k hk=>ho k _ (h.goes k hk),did:=fun k hk=>ho k _ (h.did k hk) }
theorem SlOK.mono{n:Nat}{s:Slp}{own own':Ky→Option Int}(h:SlOK n own s)(ho:aP7 own own'):SlOK n own' s:=⟨h.st,fun hk=>ho _ _ (h.go hk)⟩
theorem WInv.wb{Kp:Ky→Prop}{n:Nat}{own:Ky→Option Int}{b:Wb}(h:WInv Kp n own b):WbB b :=
 ⟨by have:=h.sent;omega,by have:=h.sent;have:=h.mlen;omega,h.now⟩
theorem DkOK.b{Kp:Ky→Prop}{own:Ky→Option Int}{sent:Int}{d:Dsk}(h:DkOK Kp own sent d)(hs:sent≤300):DskB d :=
 ⟨by have:=h.last;omega,h.time,h.lease,h.vals⟩
theorem WInv.send{Kp:Ky→Prop}{n:Nat}{own:Ky→Option Int}{b:Wb}(h:WInv Kp n own b)(h3:b.sent<300){s:Slp}(hs:SlOK n own s):WInv Kp n own (bb0 b s) where
 len:=h.len
 n16:=h.n16
 sent:=⟨by have:=h.sent;show 0≤b.sent+1;omega,by show b.sent+1≤300;omega⟩
 mlen:=by
  have:=h.mlen;show((b.mail++[{ s with id:=b.sent+1 }]).length:Int)≤b.sent+1;rw[List.length_append];simp only[List.length_cons,List.length_nil];omega
 now:=h.now
 dsk:={ h.dsk with last:=⟨h.dsk.last.1,by have:=h.dsk.last.2;show b.d.last≤b.sent+1;omega⟩ }
 st:=h.st
 puts:=h.puts
 putd:=h.putd
 mail x hx:=by
  rcases List.mem_append.1 (show x∈b.mail++[{ s with id:=b.sent+1 }]from hx)with hx|hx
  ·exact h.mail x hx
  ·rw[List.mem_singleton.1 hx];exact⟨hs.st,hs.go⟩
theorem WInv.snd{Kp:Ky→Prop}{n:Nat}{own:Ky→Option Int}{b:Wb}(h:WInv Kp n own b)(h3:b.sent<300){x:Slp×Int}(hs:x.2=0→SlOK n own x.1):WInv Kp n own (KL b x).2:=by
 unfold KL;by_cases hx:x.2=0
 ·rw[if_pos hx];exact h.send h3 (hs hx)
 ·rw[if_neg hx];exact h
theorem WInv.take{Kp:Ky→Prop}{n:Nat}{own:Ky→Option Int}{b:Wb}(h:WInv Kp n own b)(i:Nat):WInv Kp n own (bb1 b i) :=
 {h with
  mlen:=by
   have h1:=h.mlen;have h2:(b.mail.eraseIdx i).length≤b.mail.length:=List.length_eraseIdx_le _ _;show((b.mail.eraseIdx i).length:Int)≤b.sent;omega
  mail:=fun s hs=>h.mail s ((List.eraseIdx_sublist _ _).subset hs) }
theorem DkOK.at_{Kp:Ky→Prop}{own:Ky→Option Int}{sent:Int}{d:Dsk}(h:DkOK Kp own sent d)(now:Int):DkOK Kp own sent (YK d now) :=
 ⟨(by have:=h.time;show 0≤max d.time (min now 1000000)∧max d.time (min now 1000000)≤1000000;omega),h.last,h.lease,h.vals,h.keys,h.own34,h.own12⟩
theorem WInv.setSt{Kp:Ky→Prop}{n:Nat}{own:Ky→Option Int}{b:Wb}(h:WInv Kp n own b){i:Nat}{D D':Sd}(hi:b.sts[i]? = some D)(hD:SdOK i D' own)(hd:∀k,JP D.did k=true→JP D'.did k=true):WInv Kp n own { b with sts:=b.sts.set i D' } :=
 {h with
  len:=by rw[List.length_set];exact h.len
  st:=fun j D0 hj=>by
   by_cases hji:j=i
   ·subst hji;have hj:(b.sts.set j D')[j]? = some D0:=hj;rw[List.getElem?_set_self (List.getElem?_eq_some_iff.1 hi).1]at hj;cases hj;exact hD
   ·have hj:(b.sts.set i D')[j]? = some D0:=hj;rw[List.getElem?_set_ne (fun hh=>hji hh.symm)]at hj;exact h.st j D0 hj
  putd:=fun k hk=>by
   obtain⟨j,D0,hj,hk0⟩:=h.putd k hk;by_cases hji:j=i
   ·subst hji;rw[hi]at hj;cases hj;exact⟨j,D',List.getElem?_set_self (List.getElem?_eq_some_iff.1 hi).1,hd k hk0⟩
   ·exact⟨j,D0,by show(b.sts.set i D')[j]? = _;rw[List.getElem?_set_ne (fun hh=>hji hh.symm)];exact hj,hk0⟩ }
theorem cy9(d:Dsk)(s:Slp)(h:Hd)(o:Option Int)(h34:h.state=3∨h.state=4→o=some h.station)(h12:h.state=1∨h.state=2→o=none) :
 ∃o':Option Int,(∀x,o=some x→o'=some x)∧((Jl d s h).h.state=3∨(Jl d s h).h.state=4→o'=some (Jl d s h).h.station)∧((Jl d s h).h.state=1∨(Jl d s h).h.state=2→o'=none) ∧
  ((Jl d s h).kind=5→o'=some s.st)∧((Jl d s h).d=d∨(Jl d s h).d={ d with last:=d.last+1 }):=by
 unfold Jl;by_cases c1:s.kind=1∧h.state=1
 ·rw[if_pos c1];refine⟨o,fun _ h=>h,fun h=>?_,fun _=>h12 (.inl c1.2),fun h=>?_, .inr rfl⟩
  ·rcases h with h|h <;> exact absurd h (by show ¬(2:Int)=_;omega)
  ·exact absurd h (by show ¬(2:Int)=5;omega)
 rw[if_neg c1];by_cases c2:s.kind=1∧h.station=s.st∧h.state=2
 ·rw[if_pos c2];exact⟨o,fun _ h=>h,h34,h12,fun h=>absurd h (by show ¬(2:Int)=5;omega), .inl rfl⟩
 rw[if_neg c2];by_cases c3:s.kind=1∧h.station=s.st∧h.state=3
 ·rw[if_pos c3];exact⟨o,fun _ h=>h,h34,h12,fun _=>by rw[h34 (.inl c3.2.2),c3.2.1], .inl rfl⟩
 rw[if_neg c3];by_cases c4:s.kind=4∧(h.station=s.st∧h.number=s.num)∧h.state=3
 ·rw[if_pos c4];exact⟨o,fun _ h=>h,h34,h12,fun _=>by rw[h34 (.inl c4.2.2),c4.2.1.1], .inl rfl⟩
 rw[if_neg c4];by_cases c5:s.kind=1∧h.station=s.st∧h.state=4
 ·rw[if_pos c5];exact⟨o,fun _ h=>h,h34,h12,fun h=>absurd h (by show ¬(8:Int)=5;omega), .inl rfl⟩
 rw[if_neg c5];by_cases c6:s.kind=7∧(h.station=s.st∧h.number=s.num)∧h.state=4
 ·rw[if_pos c6];exact⟨o,fun _ h=>h,h34,h12,fun h=>absurd h (by show ¬(8:Int)=5;omega), .inl rfl⟩
 rw[if_neg c6];by_cases c7:s.kind=4∧(h.station=s.st∧h.number=s.num)∧h.state=2
 ·rw[if_pos c7];refine⟨some h.station,fun x hx=>?_,fun _=>rfl,fun h=>?_,fun _=>by rw[c7.2.1.1], .inl rfl⟩
  ·rw[h12 (.inr c7.2.2)]at hx;cases hx
  ·rcases h with h|h <;> exact absurd h (by show ¬(3:Int)=_;omega)
 rw[if_neg c7];by_cases c8:s.kind=6∧(h.station=s.st∧h.number=s.num)∧h.state=2
 ·rw[if_pos c8];refine⟨o,fun _ h=>h,fun h=>?_,fun _=>h12 (.inr c8.2.2),fun h=>absurd h (by show ¬(8:Int)=5;omega), .inl rfl⟩;rcases h with h|h <;> exact absurd h (by show ¬(1:Int)=_;omega)
 rw[if_neg c8];by_cases c9:s.kind=7∧(h.station=s.st∧h.number=s.num)∧h.state=3∧Jf s.mass 0 10000000=true
 ·rw[if_pos c9];refine⟨o,fun _ h=>h,fun _=>h34 (.inl c9.2.2.1),fun h=>?_,fun h=>absurd h (by show ¬(8:Int)=5;omega), .inl rfl⟩;rcases h with h|h <;> exact absurd h (by show ¬(4:Int)=_;omega)
 rw[if_neg c9];exact⟨o,fun _ h=>h,h34,h12,fun h=>absurd h (by show ¬(3:Int)=5;omega), .inl rfl⟩
theorem cz0{Kp:Ky→Prop}{own:Ky→Option Int}{sent:Int}{d:Dsk}(h:DkOK Kp own sent d){k:Ky}(hk:d.has k=true)(now:Int) :
 ((YZ d now k).state=3∨(YZ d now k).state=4→own k=some (YZ d now k).station)∧((YZ d now k).state=1∨(YZ d now k).state=2→own k=none):=by
 unfold YZ;split
 ·rename_i hc
  refine⟨fun h=>?_,fun _=>h.own12 k hk (.inr hc.1)⟩;rcases h with h|h <;> exact absurd h (by show ¬(1:Int)=_;omega)
 ·exact⟨h.own34 k hk,h.own12 k hk⟩
theorem DkOK.up{Kp:Ky→Prop}{own:Ky→Option Int}{sent:Int}{d:Dsk}(h:DkOK Kp own sent d){k:Ky}{x:Hd}{o':Option Int}(h34:x.state=3∨x.state=4→o'=some x.station)(h12:x.state=1∨x.state=2→o'=none) :
 DkOK Kp (fun k'=>if k=k' then o' else own k') sent (upD d k x) where
 time:=h.time
 last:=h.last
 lease:=h.lease
 vals:=h.vals.put _ rfl
 keys k' hk':=(bf7 d k k' x).2 (.inr (h.keys k' hk'))
 own34 k' hk' hs:=by
  rw[aV6]at hs;rw[aV6];by_cases e:k=k'
  ·rw[if_pos e]at hs;show(if k=k' then o' else own k')=some (if k=k' then x else d.held k').station;rw[if_pos e,if_pos e];exact h34 hs
  ·rw[if_neg e]at hs;show(if k=k' then o' else own k')=some (if k=k' then x else d.held k').station;rw[if_neg e,if_neg e];exact h.own34 k' (((bf7 d k k' x).1 hk').resolve_left e) hs
 own12 k' hk' hs:=by
  rw[aV6]at hs;by_cases e:k=k'
  ·rw[if_pos e]at hs;show(if k=k' then o' else own k')=_;rw[if_pos e];exact h12 hs
  ·rw[if_neg e]at hs;show(if k=k' then o' else own k')=_;rw[if_neg e];exact h.own12 k' (((bf7 d k k' x).1 hk').resolve_left e) hs
theorem WInv.gone{Kp:Ky→Prop}{n:Nat}{own:Ky→Option Int}{b:Wb}(h:WInv Kp n own b)(k:Ky):WInv Kp n own { b with d:=(ad9 b.d b.now k).2 }:=by
 have hat:=h.dsk.at_ b.now;refine { h with dsk:=?_ };show DkOK Kp own b.sent (ad9 b.d b.now k).2;unfold ad9;split
 ·exact hat
 split
 ·exact hat
 have:=hat.up (k:=k) (x:=⟨5,0,0,0,0⟩) (o':=own k) (fun h=>by rcases h with h|h <;> exact absurd h (by show ¬(5:Int)=_;omega)) (fun h=>by rcases h with h|h <;> exact absurd h (by show ¬(5:Int)=_;omega));have e:(fun k'=>if k=k' then own k else own k')=own:=funext fun k'=>by
  by_cases hk:k=k'
  ·rw[if_pos hk,hk]
  ·rw[if_neg hk]
 rw[e]at this;exact this
theorem WInv.desk{Kp:Ky→Prop}{n:Nat}{own:Ky→Option Int}{b:Wb}(h:WInv Kp n own b)(h3:b.sent<300){i:Nat}{s:Slp}(hs:b.mail[i]? = some s):∃own',aP7 own own'∧WInv Kp n own' (au5 b i s):=by
 have hsl:=h.mail s (List.mem_of_getElem? hs);have ht:=h.take i;have hat:=h.dsk.at_ b.now;unfold au5;by_cases hh:ae0 s.kind=true∧b.d.has s.k=true∧Jf s.st 1 6=true
 ·have e:Yg b.d b.now s=((⟨0,(Jl (YK b.d b.now) s (YZ b.d b.now s.k)).kind,s.st,s.k,(Jl (YK b.d b.now) s (YZ b.d b.now s.k)).num,0⟩,true),upD (Jl (YK b.d b.now) s (YZ b.d b.now s.k)).d s.k (Jl (YK b.d b.now) s (YZ b.d b.now s.k)).h):=by
   unfold Yg;rw[if_pos hh]
  rw[e,if_pos rfl];obtain⟨g34,g12⟩:=cz0 h.dsk hh.2.1 b.now;obtain⟨o',ho,a34,a12,a5,ad⟩:=cy9 (YK b.d b.now) s (YZ b.d b.now s.k) (own s.k) g34 g12;generalize Jl (YK b.d b.now) s (YZ b.d b.now s.k)=A at a34 a12 a5 ad;have hle:aP7 own (fun k'=>if s.k=k' then o' else own k'):=fun k x hx=>by
   show(if s.k=k then o' else own k)=some x;by_cases hk:s.k=k
   ·rw[if_pos hk];exact ho x (by rw[hk];exact hx)
   ·rw[if_neg hk];exact hx
  have hd:DkOK Kp own (b.sent+1) A.d:=by
   rcases ad with ad|ad <;> rw[ad]
   ·exact { hat with last:=⟨hat.last.1,by have:=hat.last.2;omega⟩ }
   ·exact { hat with last:=⟨by have:=hat.last.1;show 0≤b.d.last+1;have:=h.dsk.last.1;omega,by have:=h.dsk.last.2;show b.d.last+1≤b.sent+1;omega⟩ }
  refine⟨_,hle, ?_⟩;have hup:=hd.up (k:=s.k) (x:=A.h) (o':=o') a34 a12
  exact
   {len:=h.len,n16:=h.n16
    sent:=⟨by have:=h.sent;show 0≤b.sent+1;omega,by show b.sent+1≤300;omega⟩
    mlen:=by
     have:=ht.mlen;have this:((b.mail.eraseIdx i).length:Int)≤b.sent:=this;show(((b.mail.eraseIdx i)++[(⟨b.sent+1,A.kind,s.st,s.k,A.num,0⟩:Slp)]).length:Int)≤b.sent+1;rw[List.length_append];simp only[List.length_cons,List.length_nil];omega
    now:=h.now,dsk:=hup,st:=fun j D hj=>(h.st j D hj).mono hle,puts:=h.puts,putd:=h.putd
    mail:=fun x hx=>by
     rcases List.mem_append.1 (show x∈(b.mail.eraseIdx i)++[(⟨b.sent+1,A.kind,s.st,s.k,A.num,0⟩:Slp)]from hx)with hx|hx
     ·exact(ht.mail x hx).mono hle
     ·rw[List.mem_singleton.1 hx];refine⟨hsl.st,fun h5=>?_⟩;show(if s.k=s.k then o' else own s.k)=some s.st;rw[if_pos rfl];exact a5 h5 }
 ·have e:Yg b.d b.now s=((VS,false),YK b.d b.now):=by
   unfold Yg;rw[if_neg hh]
  rw[e,if_neg (by show ¬false=true;simp)];exact⟨own,fun _ _ h=>h,{ ht with dsk:=hat }⟩
theorem cn4(k:Ky)(xs:List Ky):(GJ k xs).length≤xs.length:=List.length_filter_le _ _
theorem bb6{α:Type}{l:List α}{i:Nat}{x y:α}(h:y∈l.set i x):y∈l∨y=x:=List.mem_or_eq_of_mem_set h
theorem az5{n i:Nat}{own:Ky→Option Int}(hi:i<n){s:Slp}(hst:s.st=(i:Int)+1)(hk:s.kind≠5):SlOK n own s:=⟨by rw[hst];omega,fun h=>absurd h hk⟩
theorem cE9{n i:Nat}{D:Sd}{own:Ky→Option Int}(h:SdOK i D own)(hi:i<n)(k:Ky):(Uo D.stn k).2=0→SlOK n own (Uo D.stn k).1:=by
 unfold Uo;split
 ·exact fun _=>az5 hi h.num (by show(1:Int)≠5;omega)
 ·rename_i hc
  exact fun h0=>absurd h0 hc
theorem bu9{n i:Nat}{D:Sd}{own:Ky→Option Int}(h:SdOK i D own)(hi:i<n)(k:Ky):(Xh D.stn k).2=0→SlOK n own (Xh D.stn k).1∧(Xh D.stn k).1.st=(i:Int)+1:=by
 unfold Xh;split
 ·split
  ·exact fun _=>⟨az5 hi h.num (by show(4:Int)≠5;omega),h.num⟩
  ·exact fun h0=>absurd h0 (by show ¬(50:Int)=0;omega)
 ·rename_i hc
  exact fun h0=>absurd h0 hc
theorem cz1{n i:Nat}{D:Sd}{own:Ky→Option Int}(h:SdOK i D own)(hi:i<n)(k:Ky):(Vh D.stn k).1.2=0→SlOK n own (Vh D.stn k).1.1:=by
 have hb:=bu9 (n:=n) h hi k;unfold Vh;by_cases h0:(Xh D.stn k).2=0
 ·rw[if_pos h0];split
  ·exact fun h1=>absurd h1 (by show ¬(4:Int)=0;omega)
  ·exact fun _=>az5 hi (hb h0).2 (by show(6:Int)≠5;omega)
 ·rw[if_neg h0];exact fun h1=>absurd h1 h0
theorem ca4{D:Sd}(h:StnV D.stn)(k:Ky):Yk 1 (Vh D.stn k).2:=by
 unfold Vh;split
 ·split
  ·exact h.grants
  ·exact h.grants.del _
 ·exact h.grants
theorem cF0{n i:Nat}{D:Sd}{own:Ky→Option Int}(h:SdOK i D own)(hi:i<n)(k:Ky)(mass:Int):(Up D.num D.did k mass).2=0→SlOK n own (Up D.num D.did k mass).1:=by
 unfold Up;split
 ·exact fun h1=>absurd h1 (by show ¬(1:Int)=0;omega)
 split
 ·exact fun h1=>absurd h1 (by show ¬(5:Int)=0;omega)
 ·exact fun _=>az5 hi h.num (by show(7:Int)≠5;omega)
theorem cz2{n i:Nat}{D:Sd}{own:Ky→Option Int}(h:SdOK i D own){x:Slp}(hx:SlOK n own x):SdOK i { D with grants:=(JK D.stn x).grants,goes:=(JK D.stn x).goes } own:=by
 have hv:=h.vals;have key:Yk 1 (JK D.stn x).grants∧Yk 1 (JK D.stn x).goes∧∀k,JP (JK D.stn x).goes k=true→own k=some D.num:=by
  unfold JK;split
  ·exact⟨hv.grants,hv.goes,h.goes⟩
  rename_i hc
  split
  ·exact⟨hv.grants,hv.goes,h.goes⟩
  split
  ·refine⟨?_,hv.goes,h.goes⟩;show Yk 1 (if _ then _ else _);split
   ·exact hv.grants.put _ rfl
   ·exact hv.grants
  split
  ·rename_i h5
   refine⟨hv.grants.put _ rfl,hv.goes.put _ rfl,fun k hk=>?_⟩;rcases(KM D.goes x.k k [x.num]).1 hk with rfl|hk
   ·rw[hx.go h5];have:x.st=D.num:=by
     by_cases e:x.st=D.stn.num
     ·exact e
     ·exact absurd (.inl e) hc
    rw[this]
   ·exact h.goes k hk
  split
  ·refine⟨?_,hv.goes,h.goes⟩;show Yk 1 (if _ then _ else _);split
   ·exact hv.grants.del _
   ·exact hv.grants
  ·exact⟨hv.grants,hv.goes,h.goes⟩
 exact { h with vals:=⟨hv.did,key.1,key.2.1⟩,goes:=key.2.2 }
theorem WInv.putNew{Kp:Ky→Prop}{n:Nat}{own:Ky→Option Int}{b:Wb}(h:WInv Kp n own b){i:Nat}{D:Sd}(hi:b.sts[i]? = some D){k:Ky}(h1:JP D.did k=false)(h2:JP D.goes k=true):JP b.puts k=false:=by
 cases hp:JP b.puts k with
 |false=>rfl
 |true =>
  exfalso;obtain⟨j,D0,hj,hk⟩:=h.putd k hp;have e1:=(h.st i D hi).goes k h2;have e2:=(h.st j D0 hj).did k hk;rw[e1]at e2;have e3:=(h.st i D hi).num;have e4:=(h.st j D0 hj).num;have e5:D.num=D0.num:=Option.some.inj e2;have:i=j:=by omega
  subst this;rw[hi]at hj;cases hj;rw[h1]at hk;cases hk
theorem WInv.put{Kp:Ky→Prop}{n:Nat}{own:Ky→Option Int}{b:Wb}(h:WInv Kp n own b){i:Nat}{D:Sd}(hi:b.sts[i]? = some D){k:Ky}{j:Nat}{ov:List Ky}(hj:D.ovs[j]? = some ov)(ho:ov.length<12)(h1:JP D.did k=false)(h2:JP D.goes k=true) :
 WInv Kp n own { b with puts:=b.puts.put (Qb k) [Xc b.puts k+1],sts:=b.sts.set i { D with ovs:=D.ovs.set j (ov++[k]),did:=D.did.put (Qb k) [Xc D.goes k,j,0] } }:=by
 have hD:=h.st i D hi;have hjl:j<D.ovs.length:=(List.getElem?_eq_some_iff.1 hj).1;have h0:=h.putNew hi h1 h2;have hz:Xc b.puts k=0:=by
  unfold JP at h0;unfold Xc;cases hg:b.puts.get (Qb k)with
  |none=>rfl
  |some v=>rw[hg]at h0;cases h0
 have hs:=h.setSt hi (D':={ D with ovs:=D.ovs.set j (ov++[k]),did:=D.did.put (Qb k) [Xc D.goes k,j,0] })
  {num:=hD.num,sz:=by show D.size.length=(D.ovs.set j (ov++[k])).length;rw[List.length_set];exact hD.sz
   len:=by show(D.ovs.set j (ov++[k])).length≤4;rw[List.length_set];exact hD.len
   room:=hD.room
   ovl:=fun o ho'=>by
    rcases bb6 (show o∈D.ovs.set j (ov++[k])from ho')with ho'|rfl
    ·exact hD.ovl o ho'
    ·simp;omega
   vals:=⟨hD.vals.did.put _ rfl,hD.vals.grants,hD.vals.goes⟩
   ovn:=fun k' hk'=>by
    show(Ye (D.did.put (Qb k) [Xc D.goes k,j,0]) k').2.1<((D.ovs.set j (ov++[k])).length:Int);rw[bb5,List.length_set];by_cases e:k=k'
    ·rw[if_pos e];show(j:Int)<D.ovs.length;omega
    ·rw[if_neg e];exact hD.ovn k' (((KM D.did k k' _).1 hk').resolve_left e)
   goes:=hD.goes
   did:=fun k' hk'=>by
    rcases(KM D.did k k' _).1 hk' with rfl|hk'
    ·exact hD.goes k h2
    ·exact hD.did k' hk' } (fun k' hk'=>(KM D.did k k' _).2 (.inr hk'))
 refine { hs with puts:=?_,putd:=fun k' hk'=>?_ }
 ·show ∀y∈(b.puts.put (Qb k) [Xc b.puts k+1]).es,y.2.1=[1];rw[hz];exact cn3 h.puts _
 ·rcases(KM b.puts k k' _).1 hk' with rfl|hk'
  ·refine⟨i,_,List.getElem?_set_self (List.getElem?_eq_some_iff.1 hi).1,(KM D.did k k _).2 (.inl rfl)⟩
  ·exact hs.putd k' hk'
theorem WInv.dry{Kp:Ky→Prop}{n:Nat}{own:Ky→Option Int}{b:Wb}(h:WInv Kp n own b)(h3:b.sent<300){i:Nat}{D:Sd}(hi:b.sts[i]? = some D){k:Ky}{j:Nat}{ov:List Ky}(hj:D.ovs[j]? = some ov)(mass:Int)(h2:JP D.did k=true) :
 WInv Kp n own { bb0 b ⟨0,7,D.num,k,(Ye D.did k).1,mass⟩with sts:=b.sts.set i { D with ovs:=D.ovs.set j (GJ k ov),did:=D.did.put (Qb k) [(Ye D.did k).1,-1,mass] } }:=by
 have hD:=h.st i D hi;have hil:=(List.getElem?_eq_some_iff.1 hi).1;have hsd:=h.send h3 (s:=⟨0,7,D.num,k,(Ye D.did k).1,mass⟩) (az5 (i:=i) (by rw[←h.len];exact hil) hD.num (by show(7:Int)≠5;omega))
 exact hsd.setSt (i:=i) hi (D':={ D with ovs:=D.ovs.set j (GJ k ov),did:=D.did.put (Qb k) [(Ye D.did k).1,-1,mass] })
  {num:=hD.num,sz:=by show D.size.length=(D.ovs.set j (GJ k ov)).length;rw[List.length_set];exact hD.sz
   len:=by show(D.ovs.set j (GJ k ov)).length≤4;rw[List.length_set];exact hD.len
   room:=hD.room
   ovl:=fun o ho'=>by
    rcases bb6 (show o∈D.ovs.set j (GJ k ov)from ho')with ho'|rfl
    ·exact hD.ovl o ho'
    ·exact Nat.le_trans (cn4 k ov) (hD.ovl ov (List.mem_of_getElem? hj))
   vals:=⟨hD.vals.did.put _ rfl,hD.vals.grants,hD.vals.goes⟩
   ovn:=fun k' hk'=>by
    show(Ye (D.did.put (Qb k) [(Ye D.did k).1,-1,mass]) k').2.1<((D.ovs.set j (GJ k ov)).length:Int);rw[bb5,List.length_set];by_cases e:k=k'
    ·rw[if_pos e];show(-1:Int)<D.ovs.length;omega
    ·rw[if_neg e];exact hD.ovn k' (((KM D.did k k' _).1 hk').resolve_left e)
   goes:=hD.goes
   did:=fun k' hk'=>by
    rcases(KM D.did k k' _).1 hk' with rfl|hk'
    ·exact hD.did k h2
    ·exact hD.did k' hk' } (fun k' hk'=>(KM D.did k k' _).2 (.inr hk'))
abbrev bO5(Kp:Ky→Prop)(n:Nat)(own:Ky→Option Int)(b:Wb)(kd a bb:Int)(k:Ky)(mass:Int):Prop :=
 ∃e b' own',aP7 own own'∧WInv Kp n own' b'∧WG b b' e kd a bb k mass
theorem aM2(id:Int)(xs:List Slp):YU (Xx id) 0 xs=-1∨∃(i:Nat) (s:Slp),YU (Xx id) 0 xs=i∧xs[i]? = some s:=by
 rcases aZ2 (Xx id) xs with ⟨h,_⟩|⟨i,hi,h,_,_⟩
 ·exact .inl h
 ·exact .inr ⟨i,xs[i],h,List.getElem?_eq_getElem hi⟩
theorem QZ(own:Ky→Option Int):aP7 own own:=fun _ _ h=>h
theorem ao7{Kp:Ky→Prop}{n:Nat}{own:Ky→Option Int}{b:Wb}(h:WInv Kp n own b)(kd a bb:Int)(k:Ky)(mass:Int)(hout:Jf a 1 b.sts.length=false→WG b b 1 kd a bb k mass)
 (hin:∀(i:Nat) (D:Sd),i<6→i<n→b.sts[i]? = some D→a=(i:Int)+1→bO5 Kp n own b kd a bb k mass):bO5 Kp n own b kd a bb k mass:=by
 cases hw:Jf a 1 b.sts.length with
 |false=>exact⟨1,b,own,QZ own,h,hout hw⟩
 |true =>
  simp[Jf]at hw;obtain⟨i,hi⟩:∃i:Nat,a=(i:Int)+1:=⟨(a-1).toNat,by omega⟩;have hl:=h.len;have hn:=h.n16;have hil:i<b.sts.length:=by omega
  exact hin i b.sts[i] (by omega) (by omega) (List.getElem?_eq_getElem hil) hi
theorem cn5{Kp:Ky→Prop}{n:Nat}{own:Ky→Option Int}{b:Wb}(h:WInv Kp n own b)(kd a bb:Int)(k:Ky)(mass:Int):bO5 Kp n own b kd a bb k mass:=by
 have hn:=h.n16;have hl:=h.len;have h0l:0<b.sts.length:=by omega
 have h0:b.sts[0]? = some b.sts[0]:=List.getElem?_eq_getElem h0l;have hb:=h.wb;by_cases k1:kd=1
 ·subst k1;refine⟨_,_,own,QZ own, ?_,cx6 hb h0 a bb mass k⟩;split
  ·exact h
  ·exact { h with now:=⟨by have:=h.now;show 0≤b.now+1;omega,by have:=h.now;show b.now+1≤1000000;omega⟩ }
 by_cases k2:kd=2
 ·subst k2;refine ao7 h 2 a bb k mass (cy0 h0 a bb mass k) fun i D hi6 hin hi ha=>?_;subst ha;by_cases h3:b.sent<300
  ·exact⟨_,_,own,QZ own,h.snd h3 (cE9 (h.st i D hi) hin k),cE3 hb h3 hi6 hi (h.st i D hi).vals bb mass k⟩
  ·exact⟨2,b,own,QZ own,h,cm0 h0 _ bb mass k (by omega) (VI (by omega))⟩
 by_cases k3:kd=3
 ·subst k3;refine ao7 h 3 a bb k mass (cy1 h0 a bb mass k) fun i D hi6 hin hi ha=>?_;subst ha;by_cases h3:b.sent<300
  ·exact⟨_,_,own,QZ own,h.snd h3 (fun h0=>(bu9 (h.st i D hi) hin k h0).1),cE4 hb h3 hi6 hi (h.st i D hi).vals bb mass k⟩
  ·exact⟨2,b,own,QZ own,h,cm1 h0 _ bb mass k (by omega) (VI (by omega))⟩
 by_cases k4:kd=4
 ·subst k4;refine ao7 h 4 a bb k mass (cy2 h0 a bb mass k) fun i D hi6 hin hi ha=>?_;subst ha;by_cases h3:b.sent<300
  ·refine⟨_,_,own,QZ own, ?_,cE5 hb h3 hi6 hi (h.st i D hi).vals bb mass k⟩;have hs:=h.snd h3 (x:=(Vh D.stn k).1) (cz1 (h.st i D hi) hin k);have hD:=h.st i D hi;have e:=(WZ b (Vh D.stn k).1).2.2;have:=hs.setSt (i:=i) (D:=D) (D':={ D with grants:=(Vh D.stn k).2 }) (by rw[e];exact hi) { hD with vals:=⟨hD.vals.did,ca4 hD.vals k,hD.vals.goes⟩ } (fun _ h=>h);rw[e]at this;exact this
  ·exact⟨2,b,own,QZ own,h,cm2 h0 _ bb mass k (by omega) (VI (by omega))⟩
 by_cases k5:kd=5
 ·subst k5;refine ao7 h 5 a bb k mass (cy3 h0 a bb mass k) fun i D hi6 hin hi ha=>?_;subst ha;have hD:=h.st i D hi;cases hw:Jf bb 0 ((D.ovs.length:Int)-1)with
  |false=>exact⟨1,b,own,QZ own,h,bZ8 hi6 hi hD.len bb mass k hw⟩
  |true =>
   simp[Jf]at hw;obtain⟨j,hj⟩:∃j:Nat,bb=j:=⟨bb.toNat,by omega⟩;subst hj;have hjl:j<D.ovs.length:=by omega
   have hjs:j<D.size.length:=by have:=hD.sz;omega
   have hov:D.ovs[j]? = some D.ovs[j]:=List.getElem?_eq_getElem hjl;have hz:D.size[j]? = some D.size[j]:=List.getElem?_eq_getElem hjs;have hz12:=hD.room _ (List.getElem_mem hjs);by_cases he:ae1 D.stn k D.ovs[j].length D.size[j]=0
   ·have hc:JP D.did k=false∧JP D.goes k=true∧(D.ovs[j].length:Int)<D.size[j]:=by
     unfold ae1 at he;split at he
     ·exact absurd he (by show ¬(51:Int)=0;omega)
     rename_i c1
     split at he
     ·exact absurd he (by show ¬(50:Int)=0;omega)
     rename_i c2
     split at he
     ·exact absurd he (by show ¬(53:Int)=0;omega)
     rename_i c3
     exact⟨Bool.eq_false_iff.2 c1,Bool.ne_false_iff.1 c2,by omega⟩
    obtain⟨c1,c2,c3⟩:=hc;have hpv:Yk 1 b.puts:=fun y hy=>by rw[h.puts y hy];rfl
    have hp0:=h.putNew hi c1 c2;have hz0:Xc b.puts k=0:=by
     unfold JP at hp0;unfold Xc;cases hg:b.puts.get (Qb k)with
     |none=>rfl
     |some v=>rw[hg]at hp0;cases hp0
    exact⟨0,_,own,QZ own,h.put hi hov (by omega) c1 c2,cm9 hpv hi6 hi hD.vals hD.len hD.sz mass k (by rw[hz0];omega) hov (by omega) hz c1 c2 c3⟩
   ·exact⟨_,b,own,QZ own,h,cm8 hi6 hi hD.vals hD.len hD.sz mass k hov hz he⟩
 by_cases k6:kd=6
 ·subst k6;refine ao7 h 6 a bb k mass (cy4 h0 a bb mass k) fun i D hi6 hin hi ha=>?_;subst ha;have hD:=h.st i D hi;by_cases h3:b.sent<300
  ·by_cases hc:Jf mass 0 10000000=true∧JP D.did k=true∧0≤(Ye D.did k).2.1
   ·obtain⟨c1,c2,c3⟩:=hc;obtain⟨j,hj⟩:∃j:Nat,(Ye D.did k).2.1=j:=⟨(Ye D.did k).2.1.toNat,by omega⟩;have hjl:j<D.ovs.length:=by have:=hD.ovn k c2;omega
    have hov:D.ovs[j]? = some D.ovs[j]:=List.getElem?_eq_getElem hjl;have hol:=hD.ovl _ (List.getElem_mem hjl);exact⟨0,_,own,QZ own,h.dry h3 hi hov mass c2,cm7 hb h3 hi6 hi hD.vals bb mass k hov (by omega) c1 c2 hj⟩
   ·exact⟨_,_,own,QZ own,h.snd h3 (cF0 hD hin k mass),cE6 hb h3 hi6 hi hD.vals bb mass k (fun c1 c2=>by
     by_cases c3:0≤(Ye D.did k).2.1
     ·exact absurd ⟨c1,c2,c3⟩ hc
     ·omega)⟩
  ·exact⟨2,b,own,QZ own,h,cm3 h0 _ bb mass k (by omega) (VI (by omega))⟩
 by_cases k7:kd=7
 ·subst k7;by_cases h3:b.sent<300
  ·rcases aM2 a b.mail with hi|⟨i,s,hi,hs⟩
   ·exact⟨5,b,own,QZ own,h,cm4 hb h0 h3 a bb mass k hi⟩
   ·cases hk:ae0 s.kind with
    |true =>
     obtain⟨own',ho,hI⟩:=h.desk h3 hs;exact⟨0,_,own',ho,hI,bO2 hb h0 h3 (h.dsk.b h.sent.2) a bb mass k hi hs hk⟩
    |false =>
     have hsl:=h.mail s (List.mem_of_getElem? hs);obtain⟨j,hj⟩:∃j:Nat,s.st=(j:Int)+1:=⟨(s.st-1).toNat,by have:=hsl.st;omega⟩;have hjl:j<b.sts.length:=by have:=hsl.st;omega
     have hD:b.sts[j]? = some b.sts[j]:=List.getElem?_eq_getElem hjl;have hok:=cz2 (h.st j _ hD) hsl;refine⟨_,_,own,QZ own, ?_,cm6 hb h3 a bb mass k hi hs hk (by omega) hj hD (h.st j _ hD).vals⟩;exact(h.take i).setSt (i:=j) hD hok (fun _ h=>h)
  ·exact⟨2,b,own,QZ own,h,cl8 h0 a bb mass k (by omega)⟩
 by_cases k8:kd=8
 ·subst k8;rcases aM2 a b.mail with hi|⟨i,s,hi,hs⟩
  ·exact⟨5,b,own,QZ own,h,bZ6 hb h0 a bb mass k hi⟩
  ·exact⟨0,_,own,QZ own,h.take i,cx7 hb h0 a bb mass k hi hs⟩
 by_cases k9:kd=9
 ·subst k9;by_cases h3:b.sent<300
  ·rcases aM2 a b.mail with hi|⟨i,s,hi,hs⟩
   ·exact⟨_,_,own,QZ own,h.snd h3 (fun h0=>absurd h0 (by show ¬(5:Int)=0;omega)),bZ7 hb h0 h3 a bb mass k (VS,5) (.inl ⟨hi,rfl⟩)⟩
   ·exact⟨_,_,own,QZ own,h.snd h3 (fun _=>h.mail s (List.mem_of_getElem? hs)),bZ7 hb h0 h3 a bb mass k (s,0) (.inr ⟨i,s,hi,hs,rfl⟩)⟩
  ·exact⟨2,b,own,QZ own,h,cl9 h0 a bb mass k (by omega)⟩
 by_cases k10:kd=10
 ·subst k10;refine ao7 h 10 a bb k mass (cl7 h0 a bb mass k) fun i D hi6 hin hi ha=>?_;subst ha;have hD:=h.st i D hi;refine⟨0,_,own,QZ own, ?_,cy5 hi6 hi bb mass k⟩;exact h.setSt hi { hD with vals:=⟨hD.vals.did,Yk.nil 1,Yk.nil 1⟩,goes:=fun k hk=>by cases hk } (fun _ h=>h)
 by_cases k11:kd=11
 ·subst k11;exact⟨_,_,own,QZ own,h.gone k,cx8 h0 h.dsk.vals a bb mass k⟩
 exact⟨1,b,own,QZ own,h,cx9 h0 kd a bb mass k (by omega)⟩
def wb0(lease:Int)(l:List Vj)(rooms:List (List Int)):Wb:=⟨al9 lease l,0,[],0,Mp.nil,ah4 rooms rooms.length⟩
abbrev KpL(l:List Vj)(k:Ky):Prop:=∃x∈l,(x.1,x.2.1)=k
theorem bv0(lease:Int)(l:List Vj)(k:Ky):(al9 lease l).known.get (Qb k)=if ∃x∈l,skL x=Qb k then some (hdL ⟨1,0,0,0,0⟩)else none:=bD6 l (Qb k)
theorem cz3{lease:Int}(hle:Jf lease 1 1000=true)(l:List Vj){rooms:List (List Int)}(hn:Jf rooms.length 1 6=true)(hok:∀r∈rooms,Yo r=0):WInv (KpL l) rooms.length (fun _=>none) (wb0 lease l rooms) where
 len:=ar6 _ _
 n16:=by simp[Jf]at hn;omega
 sent:=⟨by show(0:Int)≤0;omega,by show(0:Int)≤300;omega⟩
 mlen:=by show((([]:List Slp).length:Nat):Int)≤0;simp
 now:=⟨by show(0:Int)≤0;omega,by show(0:Int)≤1000000;omega⟩
 dsk :=
  {time:=⟨by show(0:Int)≤0;omega,by show(0:Int)≤1000000;omega⟩
   last:=⟨by show(0:Int)≤0;omega,by show(0:Int)≤0;omega⟩
   lease:=by simp[Jf]at hle;exact hle
   vals:=bs5 l
   keys:=fun k hk=>by
    obtain⟨x,hx,hxk⟩:=hk;show((al9 lease l).known.get (Qb k)).isSome=true;rw[bv0,if_pos ⟨x,hx,by rw[←hxk];rfl⟩];rfl
   own34:=fun k _ hs=>by
    have:(Dsk.held (al9 lease l) k).state=1∨(Dsk.held (al9 lease l) k).state=0:=by
     unfold Dsk.held;rw[bv0];split
     ·rename_i hx
      split at hx
      ·cases hx;exact .inl rfl
      ·cases hx
     ·exact .inr rfl
    have hs:(Dsk.held (al9 lease l) k).state=3∨(Dsk.held (al9 lease l) k).state=4:=hs;omega
   own12:=fun _ _ _=>rfl }
 st i D hi:=by
  have hi:(ah4 rooms rooms.length)[i]? = some D:=hi;have hil:=(List.getElem?_eq_some_iff.1 hi).1;rw[ar6]at hil;unfold ah4 at hi;rw[List.getElem?_map,List.getElem?_range hil]at hi;have hi:VC ((i:Int)+1) (rooms.getD i [])=D:=by simpa using hi
  subst hi;have hr:rooms.getD i []∈rooms:=by
   rw[List.getD,List.getElem?_eq_getElem hil];exact List.getElem_mem _
  have h0:=hok _ hr;generalize rooms.getD i []=row at h0;unfold Yo at h0;split at h0
  ·exact absurd h0 (by show ¬(2:Int)=0;omega)
  rename_i c1
  split at h0
  ·exact absurd h0 (by show ¬(1:Int)=0;omega)
  rename_i c2
  have c1:Jf row.length 1 4=true:=Bool.ne_false_iff.1 c1;simp[Jf]at c1;have c2:∀z∈row,Jf z 1 12=true:=fun z hz=>by
   cases hw:Jf z 1 12 with
   |true=>rfl
   |false=>exact absurd (List.any_eq_true.2 ⟨z,hz,by rw[hw];rfl⟩) c2
  have hov:∀ov∈(VC ((i:Int)+1) row).ovs,ov=[]:=fun ov h=>List.eq_of_mem_replicate (show ov∈List.replicate row.length ([]:List Ky)from h)
  exact
   {num:=rfl,sz:=by show row.length=(List.replicate row.length ([]:List Ky)).length;simp
    len:=by show(List.replicate row.length ([]:List Ky)).length≤4;simp;omega
    room:=fun z hz=>by have:=c2 z hz;simp[Jf]at this;omega
    ovl:=fun ov h=>by rw[hov ov h];exact Nat.zero_le _
    vals:=⟨Yk.nil 3,Yk.nil 1,Yk.nil 1⟩
    ovn:=fun k hk=>by cases hk
    goes:=fun k hk=>by cases hk
    did:=fun k hk=>by cases hk }
 puts y hy:=by cases hy
 putd k hk:=by cases hk
 mail s hs:=by cases hs
theorem cn6(n:Int)(b:Int×Int):Triple Tryz.prog 114 [svB b, .c (.p 0 0 0 0)] [(0,false, .cells [.v (.int .i64 n)])] 1 (bv (b.1==n)) []:=by
 refine Jc Ja Tryz.func114 rfl Tryz.call114 rfl ?_;intro ρ w hH;conv=>whnf
 exact cl
theorem bO6(n:Int)(bs:List (Int×Int))(hb:bs.length≤140737488355328):Triple Tryz.prog 62 [.c (.s 0 0 bs.length 2), .c (.f 114 [1])]
 [(0,false, .arr (Gl bs)),(1,false, .cells [.v (.int .i64 n)])] 2 (iv .i64 (aw2 (fun b=>b.1==n) bs)) []:=by
 refine Jc Ja Tryz.func62 rfl Tryz.call62 rfl ?_;intro ρ w hH;conv=>whnf
 refine Jz Ja (G:=Nat) 0 [] (fun i=>[(8,iv .i64 i)]) (fun _=>[]) (fun i=>i≤bs.length∧∀x∈bs.take i,(x.1==n)=false) (fun i=>bs.length-i) ?_;conv=>whnf
 refine⟨⟨0,⟨Nat.zero_le _,(fun x hx=>by simp at hx)⟩, ?_⟩, ?_⟩
 ·conv=>whnf
  exact cl
 intro i ⟨hi,hn⟩ ρ1 t1 hρ1;have hi:i≤bs.length:=hi;have hn:∀x∈bs.take i,(fun b:Int×Int=>b.1==n) x=false:=hn;conv=>whnf
 refine⟨fun hc=>?_,fun hc=>?_⟩
 ·have h:i<bs.length:=by simp at hc;omega
  conv=>whnf
  refine⟨i,rfl,h,h, ?_⟩;conv=>whnf
  refine Jb (cn6 n bs[i]) rfl rfl ?_;conv=>whnf
  refine cs ?_;conv=>whnf
  refine⟨fun hc=>?_,fun hc=>?_⟩
  ·rw[aP1 (p:=fun b:Int×Int=>b.1==n) h hn hc];conv=>whnf
   exact cl
  ·conv=>whnf
   refine⟨_,wO, ?_⟩;refine⟨i+1,⟨h, ?_⟩,by show bs.length-(i+1)<bs.length-i;omega, ?_⟩
   ·intro x hxx;rw[JR h]at hxx;rcases List.mem_append.1 hxx with hxx|hxx
    ·exact hn x hxx
    ·simp only[List.mem_singleton]at hxx;rw[hxx];exact hc
   conv=>whnf
   refine⟨rfl, ?_⟩;conv=>whnf
   exact cl
 ·have hi2:i=bs.length:=by simp at hc;omega
  subst hi2;rw[List.take_length]at hn;rw[aL1 hn];conv=>whnf
  exact cl
theorem cn7{p:Pl}(hp:PlanOK p){i:Nat}{b:Int×Int}(hi:p.bales[i]? = some b):aw2 (fun x:Int×Int=>x.1==b.1) p.bales=i:=by
 have hil:=(List.getElem?_eq_some_iff.1 hi).1;have hib:=(List.getElem?_eq_some_iff.1 hi).2;refine aP1 hil (fun x hx=>?_) (by simp[hib]);obtain⟨j,hj⟩:=List.getElem?_of_mem hx;rw[List.getElem?_take]at hj;by_cases hji:j<i
 ·rw[if_pos hji]at hj;have hjl:=(List.getElem?_eq_some_iff.1 hj).1;have:=List.pairwise_iff_getElem.1 hp.asc j i hjl hil hji;rw[(List.getElem?_eq_some_iff.1 hj).2,hib]at this;have:x.1≠b.1:=by omega
  simpa using this
 ·rw[if_neg hji]at hj;cases hj
theorem ca5{bs:List (Int×Int)}{i:Nat}{b:Int×Int}(h:bs[i]? = some b):∀hz,(Gl bs).xs[JO 0 i]'hz=b:=fun hz=>by
 have h2:bs[JO 0 i]? = some (bs[JO 0 i]'hz):=List.getElem?_eq_getElem hz;have h3:bs[JO 0 i]? = some b:=by rw[Qc,Nat.zero_add];exact h
 exact Option.some.inj (h2.symm.trans h3)
theorem cz4(p:Pl)(hf:p.fib.length≤140737488355328)(hp:Wu p=0)(seed:List UInt8)(hs:seed.length=16){i:Nat}{b:Int×Int}(hi:p.bales[i]? = some b) :
 Triple Tryz.prog 60 [an5 0 p,YQ seed,iv .i64 b.1] [(0,false, .arr (Gl p.bales))] 1 (.tup [.inl (.s 1 0 b.2.toNat 1), .inl (.v (.int .i64 0))]) [(1,true, .arr (Yn (Yt seed b)))]:=by
 have hok:=ao5 hp;have hlen:=hok.len;have hil:=(List.getElem?_eq_some_iff.1 hi).1;have hb:=hok.bale b (List.mem_of_getElem? hi);have hper:=hok.per;have hplan:=br6 p hf (by omega);rw[hp]at hplan;have hix:=bO6 b.1 p.bales (by omega);rw[cn7 hok hi]at hix;have d0:decide ((i:Int)<0)=false:=decide_eq_false (by omega);have hord:=bD4 seed hs b ⟨hb.1,by omega,by omega⟩;refine Jc Ja Tryz.func60 rfl Tryz.call60 rfl ?_;intro ρ w hH;conv=>whnf
 refine YT (l:=seed) rfl rfl ?_;rw[hs];conv=>whnf
 refine Jb hplan rfl rfl ?_;conv=>whnf
 refine cs ?_;conv=>whnf
 repeat ((first|refine qT fun hc=>?_|refine qF fun hc=>?_);conv=>whnf)
 refine Jb hix rfl rfl ?_;conv=>whnf
 refine cs ?_;conv=>whnf
 repeat ((first|refine qT fun hc=>?_|refine qF fun hc=>?_);conv=>whnf)
 refine Jm (l:=seed) Ja rfl rfl rfl rfl rfl hs.symm ?_;conv=>whnf
 refine⟨i,rfl,hil,hil, ?_⟩;conv=>whnf
 erw[ca5 hi];refine Jb hord rfl rfl ?_;conv=>whnf
 refine cs ?_;conv=>whnf
 exact cl
def ae3(p:Pl)(seed:List UInt8)(b:Int×Int)(lost:Int):Vj×Int :=
 if b.2-p.per<lost then((0,0,0),5)else((b.1,p.per+lost,(Yt seed b).getD (p.per+lost-1).toNat 0),0)
theorem ca6(p:Pl)(hf:p.fib.length≤140737488355328)(hp:Wu p=0)(seed:List UInt8)(hs:seed.length=16){i:Nat}{b:Int×Int}(hi:p.bales[i]? = some b)(lost:Int)(hlo:1≤lost∧lost≤1000000) :
 Triple Tryz.prog 20 [an5 0 p,YQ seed,iv .i64 b.1,iv .i64 lost] [(0,false, .arr (Gl p.bales))] 1
  (.tup [.inr [.v (.int .i64 (ae3 p seed b lost).1.1), .v (.int .i64 (ae3 p seed b lost).1.2.1), .v (.int .i64 (ae3 p seed b lost).1.2.2)], .inl (.v (.int .i64 (ae3 p seed b lost).2))]) []:=by
 have hok:=ao5 hp;have hb:=hok.bale b (List.mem_of_getElem? hi);have hper:=hok.per;have hol:=UZ seed b;have hO:=cz4 p hf hp seed hs hi;generalize hR:ae3 p seed b lost=R;have d1:decide (lost<1)=false:=decide_eq_false (by omega);have hbn:((b.2.toNat:Nat):Int)=b.2:=by omega
 by_cases h:b.2-p.per<lost
 ·rw[ae3,if_pos h]at hR;subst hR;have d2:decide (((b.2.toNat:Nat):Int)-p.per<lost)=true:=decide_eq_true (by omega);refine Jc Ja Tryz.func20 rfl Tryz.call20 rfl ?_;intro ρ w hH;conv=>whnf
  refine YT (l:=seed) rfl rfl ?_;rw[hs];conv=>whnf
  refine Jm (l:=seed) Ja rfl rfl rfl rfl rfl hs.symm ?_;conv=>whnf
  refine Jb hO rfl rfl ?_;conv=>whnf
  refine cs ?_;conv=>whnf
  repeat ((first|refine qT fun hc=>?_|refine qF fun hc=>?_);conv=>whnf)
  refine⟨((b.2.toNat:Nat):Int)-p.per,YX (z:=((b.2.toNat:Nat):Int)-p.per) ⟨by omega,by omega⟩, ?_⟩;conv=>whnf
  repeat ((first|refine qT fun hc=>?_|refine qF fun hc=>?_);conv=>whnf)
  exact cl
 ·rw[ae3,if_neg h]at hR;subst hR;have d2:decide (((b.2.toNat:Nat):Int)-p.per<lost)=false:=decide_eq_false (by omega);obtain⟨j,hj⟩:∃j:Nat,p.per+lost-1=j:=⟨(p.per+lost-1).toNat,by omega⟩;have hjl:j<(Yt seed b).length:=by omega
  have hg:(Yt seed b).getD (p.per+lost-1).toNat 0=(Yt seed b)[j]:=by
   rw[hj,Int.toNat_natCast,List.getD,List.getElem?_eq_getElem hjl];rfl
  have hga:∀hz,(Yn (Yt seed b)).xs[JO 0 j]'hz=(Yt seed b).getD (p.per+lost-1).toNat 0:=fun hz=>by
   have h2:(Yt seed b)[JO 0 j]? = some ((Yt seed b)[JO 0 j]'hz):=List.getElem?_eq_getElem hz;have h3:(Yt seed b)[JO 0 j]? = some (Yt seed b)[j]:=by rw[Qc,Nat.zero_add];exact List.getElem?_eq_getElem hjl
   rw[hg];exact Option.some.inj (h2.symm.trans h3)
  refine Jc Ja Tryz.func20 rfl Tryz.call20 rfl ?_;intro ρ w hH;conv=>whnf
  refine YT (l:=seed) rfl rfl ?_;rw[hs];conv=>whnf
  refine Jm (l:=seed) Ja rfl rfl rfl rfl rfl hs.symm ?_;conv=>whnf
  refine Jb hO rfl rfl ?_;conv=>whnf
  refine cs ?_;conv=>whnf
  repeat ((first|refine qT fun hc=>?_|refine qF fun hc=>?_);conv=>whnf)
  refine⟨((b.2.toNat:Nat):Int)-p.per,YX (z:=((b.2.toNat:Nat):Int)-p.per) ⟨by omega,by omega⟩, ?_⟩;conv=>whnf
  repeat ((first|refine qT fun hc=>?_|refine qF fun hc=>?_);conv=>whnf)
  refine⟨p.per+lost,YX (z:=p.per+lost) ⟨by omega,by omega⟩, ?_⟩;conv=>whnf
  refine⟨p.per+lost,YX (z:=p.per+lost) ⟨by omega,by omega⟩, ?_⟩;conv=>whnf
  refine⟨(j:Int),by rw[hj];exact wO, ?_⟩;conv=>whnf
  refine⟨j,rfl,by omega,hjl, ?_⟩;conv=>whnf
  repeat' (first|exact(hga _)|exact trivial|exact rfl|refine And.intro ?_ ?_|((conv=>whnf);first|exact(hga _)|exact trivial|exact rfl|refine And.intro ?_ ?_|omega))
theorem bi9{l:List Int}(h:∀a b:Nat,a<b→b<l.length→l[a]?≠l[b]?):l.Nodup:=by
 refine List.pairwise_iff_getElem.2 fun a b ha hb hab=>?_;have:=h a b hab hb;rw[List.getElem?_eq_getElem ha,List.getElem?_eq_getElem hb]at this;exact fun e=>this (by rw[e])
theorem bj0{l:List Int}{i k:Nat}(hi:i<l.length)(hk:k<l.length)(x:Nat):(au1 l i k)[x]? = l[if x=k then i else if x=i then k else x]?:=by
 unfold au1;by_cases hxk:x=k
 ·subst hxk;rw[if_pos rfl,List.getElem?_set_self (by rw[List.length_set];exact hk),List.getD,List.getElem?_eq_getElem hi];rfl
 ·rw[if_neg hxk,List.getElem?_set_ne (fun h=>hxk h.symm)];by_cases hxi:x=i
  ·subst hxi;rw[if_pos rfl,List.getElem?_set_self hi,List.getD,List.getElem?_eq_getElem hk];rfl
  ·rw[if_neg hxi,List.getElem?_set_ne (fun h=>hxi h.symm)]
theorem bA2{l:List Int}(h:l.Nodup){i k:Nat}(hi:i<l.length)(hk:k<l.length):(au1 l i k).Nodup:=by
 refine bi9 fun a b hab hb=>?_;rw[aL0]at hb;rw[bj0 hi hk,bj0 hi hk];intro e;have hlt:(if a=k then i else if a=i then k else a)<l.length:=by
  split
  ·exact hi
  split
  ·exact hk
  ·omega
 have:=(List.getElem?_inj hlt h).1 e;revert this;split <;> split <;> (try split) <;> (try split) <;> omega
theorem bA3(n:Nat):((List.range n).map fun(i:Nat)=>(i:Int)).Nodup:=by
 refine bi9 fun a b hab hb=>?_;have hb:b<n:=by simpa using hb
 rw[List.getElem?_map,List.getElem?_map,List.getElem?_range (by omega),List.getElem?_range hb];intro e;have:(a:Int)=b:=Option.some.inj e;omega
theorem aS1(seed:List UInt8)(n:Nat)(hn:n≤100000):∀j,j≤n-1→(Vo seed n j).Nodup
 |0,_=>bA3 n
 |j+1,hj=>by
  have hb:=au0 seed j (n-1-j+1) (by omega) (by omega);exact bA2 (aS1 seed n hn j (by omega)) (by rw[Wk];omega) (by rw[Wk];omega)
theorem bO7(seed:List UInt8)(b:Int×Int)(hb:b.2≤200){m m':Nat}(hm:m<b.2.toNat)(hm':m'<b.2.toNat)(h:(Yt seed b).getD m 0=(Yt seed b).getD m' 0):m=m':=by
 have hl:=UZ seed b;rw[List.getD,List.getD,List.getElem?_eq_getElem (by omega),List.getElem?_eq_getElem (by omega)]at h;have h:(Yt seed b)[m]'(by omega)=(Yt seed b)[m']'(by omega):=h;unfold Yt at h;rw[List.getElem_map,List.getElem_map]at h;have hpl:(aj1 (Xv 51 [seed,JH b.1]) b.2.toNat).length=b.2.toNat:=Wk _ _ _;have hn:(aj1 (Xv 51 [seed,JH b.1]) b.2.toNat).Nodup:=aS1 _ _ (by omega) _ (Nat.le_refl _);have e:(aj1 (Xv 51 [seed,JH b.1]) b.2.toNat)[m]? = (aj1 (Xv 51 [seed,JH b.1]) b.2.toNat)[m']?:=by
  rw[List.getElem?_eq_getElem (by omega),List.getElem?_eq_getElem (by omega)];congr 1;omega
 exact(List.getElem?_inj (by omega) hn).1 e
def XD(p:Pl)(seed:List UInt8)(x:Nat×Nat):Vj:=((p.bales.getD x.1 (0,0)).1,(x.2:Int)+1,(Yt seed (p.bales.getD x.1 (0,0))).getD x.2 0)
theorem bb7{p:Pl}{i:Nat}{b:Int×Int}(h:p.bales[i]? = some b):p.bales.getD i (0,0)=b:=by rw[List.getD,h];rfl
theorem WY(seed:List UInt8)(m:Nat)(hm:0<m):∀(bs:List (Int×Int)) (k:Nat),k<bs.length*m→∃b,bs[k/m]? = some b∧(bs.flatMap fun b=>VQ seed b m)[k]? = some (b.1,((k%m:Nat):Int)+1,(Yt seed b).getD (k%m) 0)
 | [],k,h=>by simp at h
 |b::r,k,h=>by
  rw[List.flatMap_cons];by_cases hk:k<m
  ·rw[Nat.div_eq_of_lt hk,Nat.mod_eq_of_lt hk,List.getElem?_append_left (by rw[UM];exact hk)];refine⟨b,rfl, ?_⟩;unfold VQ;rw[List.getElem?_map,List.getElem?_range hk];rfl
  ·have hkm:m≤k:=by omega
   rw[List.length_cons,Nat.succ_mul]at h;obtain⟨b',h1,h2⟩:=WY seed m hm r (k-m) (by omega);have e1:k/m=(k-m)/m+1:=by rw[Nat.div_eq_sub_div hm hkm]
   have e2:k%m=(k-m)%m:=Nat.mod_eq_sub_mod hkm;refine⟨b',by rw[e1,List.getElem?_cons_succ];exact h1, ?_⟩;rw[List.getElem?_append_right (by rw[UM];exact hkm),UM,h2,e2]
theorem aM3{p:Pl}(hp:PlanOK p)(seed:List UInt8){m:Nat}(hm:p.per=m){k:Nat}(hk:k<(Vp p seed).length):∃b,p.bales[k/m]? = some b∧(Vp p seed)[k]? = some (XD p seed (k/m,k%m)):=by
 have hper:=hp.per;have e:p.per.toNat=m:=by omega
 unfold Vp at hk ⊢;rw[e]at hk ⊢;rw[ak8]at hk;obtain⟨b,h1,h2⟩:=WY seed m (by omega) p.bales k hk;refine⟨b,h1, ?_⟩;rw[h2];unfold XD;rw[bb7 h1]
theorem bj1{p:Pl}(seed:List UInt8){m:Nat}(hm:p.per=m):(Vp p seed).length=p.bales.length*m:=by
 have e:p.per.toNat=m:=by omega
 unfold Vp;rw[e,ak8]
theorem bv1{p:Pl}(hp:PlanOK p)(seed:List UInt8){x y:Nat×Nat}(hx:∃b,p.bales[x.1]? = some b∧(x.2:Int)<b.2)(hy:∃b,p.bales[y.1]? = some b∧(y.2:Int)<b.2)(hne:x≠y)
 (h1:(XD p seed x).1=(XD p seed y).1) (h2:(XD p seed x).2.2=(XD p seed y).2.2∨(XD p seed x).2.1=(XD p seed y).2.1):False:=by
 obtain⟨b,hb,hxb⟩:=hx;obtain⟨b',hb',hyb⟩:=hy;unfold XD at h1 h2;rw[bb7 hb,bb7 hb']at h1 h2;have hi:x.1=y.1:=by
  have l1:=(List.getElem?_eq_some_iff.1 hb).1;have l2:=(List.getElem?_eq_some_iff.1 hb').1;have g1:=(List.getElem?_eq_some_iff.1 hb).2;have g2:=(List.getElem?_eq_some_iff.1 hb').2;rcases Nat.lt_trichotomy x.1 y.1 with h|h|h
  ·have:=List.pairwise_iff_getElem.1 hp.asc x.1 y.1 l1 l2 h;rw[g1,g2]at this;have h1:b.1=b'.1:=h1;omega
  ·exact h
  ·have:=List.pairwise_iff_getElem.1 hp.asc y.1 x.1 l2 l1 h;rw[g1,g2]at this;have h1:b.1=b'.1:=h1;omega
 rw[hi]at hb;rw[hb]at hb';have hbb:b=b':=Option.some.inj hb';subst hbb;have hm:x.2=y.2:=by
  rcases h2 with h2|h2
  ·exact bO7 seed b (hp.bale b (List.mem_of_getElem? hb)).2.2 (by omega) (by omega) h2
  ·have h2:(x.2:Int)+1=(y.2:Int)+1:=h2;omega
 exact hne (Prod.ext hi hm)
structure UInv (p:Pl) (m k:Nat) (U:List (Nat×Nat)) (lost:List Int):Prop where
 nd:U.Nodup
 pl:∀x∈U,(∃b,p.bales[x.1]? = some b∧(x.2:Int)<b.2)∧(x.2<m∧x.1*m+x.2<k∨m≤x.2∧(x.2:Int)<m+lost.getD x.1 0)
 len:lost.length=p.bales.length
 bd:∀i,0≤lost.getD i 0∧lost.getD i 0≤k
 ul:U.length≤k
theorem bb8{α:Type}{l:List α}{x:α}(h:l.Nodup)(hx:x∉l):(l++[x]).Nodup:=by
 rw[List.nodup_append];refine⟨h,by simp,fun a ha b hb=>?_⟩;rw[List.mem_singleton.1 hb];exact fun e=>hx (e▸ha)
theorem UInv.zero(p:Pl)(m:Nat):UInv p m 0 [] (List.replicate p.bales.length 0) :=
 ⟨List.nodup_nil,(fun x hx=>by cases hx),by simp,fun i=>by
  rw[List.getD,List.getElem?_replicate];split <;> simp,Nat.le_refl _⟩
theorem UInv.keep{p:Pl}(hp:PlanOK p){m k:Nat}(hm:p.per=m){U:List (Nat×Nat)}{lost:List Int}(h:UInv p m k U lost){b:Int×Int}(hb:p.bales[k/m]? = some b):UInv p m (k+1) (U++[(k/m,k%m)]) lost where
 nd:=bb8 h.nd fun hx=>by
  have:=(h.pl _ hx).2;have hd:=Nat.div_add_mod k m;have hml:k%m<m:=Nat.mod_lt _ (by have:=hp.per;omega);rw[Nat.mul_comm]at hd;rcases this with ⟨_,h2⟩|⟨h1,_⟩
  ·have h2:k/m*m+k%m<k:=h2;omega
  ·have h1:m≤k%m:=h1;omega
 pl x hx:=by
  rcases List.mem_append.1 hx with hx|hx
  ·obtain⟨h1,h2⟩:=h.pl x hx;exact⟨h1,h2.imp (fun h=>⟨h.1,by omega⟩) id⟩
  ·rw[List.mem_singleton.1 hx];have hml:k%m<m:=Nat.mod_lt _ (by have:=hp.per;omega);have hper:=hp.bale b (List.mem_of_getElem? hb);have hd:=Nat.div_add_mod k m;rw[Nat.mul_comm]at hd;exact⟨⟨b,hb,by show((k%m:Nat):Int)<b.2;omega⟩, .inl ⟨hml,by show k/m*m+k%m<k+1;omega⟩⟩
 len:=h.len
 bd i:=⟨(h.bd i).1,by have:=(h.bd i).2;omega⟩
 ul:=by rw[List.length_append];have:=h.ul;simp;omega
theorem aV7{l:List Int}{i j:Nat}{x:Int}(hi:i<l.length):(l.set i x).getD j 0=if i=j then x else l.getD j 0:=by
 rw[List.getD,List.getD];by_cases h:i=j
 ·subst h;rw[List.getElem?_set_self hi,if_pos rfl];rfl
 ·rw[List.getElem?_set_ne h,if_neg h]
theorem UInv.none{p:Pl}{m k:Nat}{U:List (Nat×Nat)}{lost:List Int}(h:UInv p m k U lost){i:Nat}(hi:i<p.bales.length):UInv p m (k+1) U (lost.set i (lost.getD i 0+1)) where
 nd:=h.nd
 pl x hx:=by
  obtain⟨h1,h2⟩:=h.pl x hx;refine⟨h1,h2.imp (fun h=>⟨h.1,by omega⟩) fun h3=>⟨h3.1, ?_⟩⟩;rw[aV7 (by rw[h.len];exact hi)];split
  ·rename_i e;rw[e];omega
  ·exact h3.2
 len:=by rw[List.length_set];exact h.len
 bd j:=by
  rw[aV7 (by rw[h.len];exact hi)];have h1:=h.bd i;have h2:=h.bd j;split <;> omega
 ul:=by have:=h.ul;omega
theorem UInv.repl{p:Pl}{m k:Nat}{U:List (Nat×Nat)}{lost:List Int}(h:UInv p m k U lost){i:Nat}{b:Int×Int}(hb:p.bales[i]? = some b)(hc:¬b.2-m<lost.getD i 0+1) :
 UInv p m (k+1) (U++[(i,m+(lost.getD i 0).toNat)]) (lost.set i (lost.getD i 0+1)):=by
 have hi:=(List.getElem?_eq_some_iff.1 hb).1;have hn:=h.none hi;have h0:=(h.bd i).1
 exact
  {nd:=bb8 h.nd fun hx=>by
    have:=(h.pl _ hx).2;rcases this with ⟨h1,_⟩|⟨_,h2⟩
    ·have h1:m+(lost.getD i 0).toNat<m:=h1;omega
    ·have h2:((m+(lost.getD i 0).toNat:Nat):Int)<m+lost.getD i 0:=h2;omega
   pl:=fun x hx=>by
    rcases List.mem_append.1 hx with hx|hx
    ·exact hn.pl x hx
    ·rw[List.mem_singleton.1 hx];refine⟨⟨b,hb,by show((m+(lost.getD i 0).toNat:Nat):Int)<b.2;omega⟩, .inr ⟨by show m≤m+_;omega, ?_⟩⟩;show((m+(lost.getD i 0).toNat:Nat):Int)<m+(lost.set i (lost.getD i 0+1)).getD i 0;rw[aV7 (by rw[h.len];exact hi),if_pos rfl];omega
   len:=hn.len,bd:=hn.bd,ul:=by rw[List.length_append];have:=h.ul;simp;omega }
theorem cn8{p:Pl}{m:Nat}(hm:p.per=m)(seed:List UInt8){i:Nat}{b:Int×Int}(hb:p.bales[i]? = some b){c:Int}(hc:0≤c)(h:¬b.2-m<c+1):ae3 p seed b (c+1)=(XD p seed (i,m+c.toNat),0):=by
 unfold ae3 XD;rw[hm,if_neg h,bb7 hb];have e1:((m:Int)+(c+1)-1).toNat=m+c.toNat:=by omega
 have e2:(m:Int)+(c+1)=((m+c.toNat:Nat):Int)+1:=by omega
 rw[e1,e2]
theorem cn9{p:Pl}{m:Nat}(hm:p.per=m)(seed:List UInt8){b:Int×Int}{c:Int}(h:b.2-m<c+1):ae3 p seed b (c+1)=((0,0,0),5):=by
 unfold ae3;rw[hm,if_pos h]
def UB(s:Sec):List UInt8:=VK s.seed++VK s.salt
def WU(x:Vj):List UInt8:=JH x.1++JH x.2.1++JH x.2.2
theorem bj2(s:Sec)(h1:s.seed.length≤140737488355328)(h2:s.salt.length≤140737488355328):Triple Tryz.prog 28 [ar0 s] [] 0 (YC (UB s)) []:=by
 have l1:=GY s.seed;have l2:=GY s.salt;refine Jc Ja Tryz.func28 rfl Tryz.call28 rfl ?_;intro ρ w hH;conv=>whnf
 refine Jb (br4 s.seed h1) rfl rfl ?_;conv=>whnf
 refine cs ?_;conv=>whnf
 refine Jb (br4 s.salt h2) rfl rfl ?_;conv=>whnf
 refine cs ?_;conv=>whnf
 refine Yq (l:=VK s.seed) (l':=VK s.salt) rfl rfl rfl (by omega) ?_;conv=>whnf
 exact cl
theorem bj3(x:Vj)(h1:-9223372036854775808≤x.1∧x.1≤9223372036854775807)(h2:-9223372036854775808≤x.2.1∧x.2.1≤9223372036854775807)(h3:-9223372036854775808≤x.2.2∧x.2.2≤9223372036854775807) :
 Triple Tryz.prog 25 [.agg [.v (.int .i64 x.1), .v (.int .i64 x.2.1), .v (.int .i64 x.2.2)]] [] 0 (YC (WU x)) []:=by
 have l1:=Qz x.1;have l2:=Qz x.2.1;have l3:=Qz x.2.2;refine Jc Ja Tryz.func25 rfl Tryz.call25 rfl ?_;intro ρ w hH;conv=>whnf
 refine Jb (UY x.1 h1) rfl rfl ?_;conv=>whnf
 refine cs ?_;conv=>whnf
 refine Jb (UY x.2.1 h2) rfl rfl ?_;conv=>whnf
 refine cs ?_;conv=>whnf
 refine Yq (l:=JH x.1) (l':=JH x.2.1) rfl rfl rfl (by omega) ?_;conv=>whnf
 refine Jb (UY x.2.2 h3) rfl rfl ?_;conv=>whnf
 refine cs ?_;conv=>whnf
 refine Yq (l:=JH x.1++JH x.2.1) (l':=JH x.2.2) rfl rfl rfl (by rw[List.length_append];omega) ?_;conv=>whnf
 exact cl
end Go.Proofs
