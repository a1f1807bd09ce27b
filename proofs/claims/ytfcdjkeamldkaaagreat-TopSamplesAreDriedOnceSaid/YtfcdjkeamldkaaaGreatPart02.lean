/-
  A part of the proof that a law answers true: lemmas of a symbolic walk, plain functions, or contracts of the functions walked (Sx6, Sx7, Sx8, Sx9). Conditions: none.
-/
import Derived.Test.YtfcdjkeamldkaaaGreatPart01
set_option maxRecDepth 100000
set_option linter.unusedVariables false
set_option linter.unusedSimpArgs false
namespace Go
namespace Sx
theorem YJ(n:Nat)(k:IntKind)(z:Int):(iv k z).below n:=VX n _
theorem VD(n:Nat)(t:Bool):(bv t).below n:=VX n _
theorem Xp{P:Program}{o:Oper}{e:Env}{H:Je}{sv:SV}(hb:∀n,sv.below n)
 (h:∀(ρ:Jn) (a:Act) (w:World),(∀t,Wr o t→(e.get t).rel ρ (a.tmps.getD t undef))→∃v,(execOp a.eval o).run P w=.ok (.value v) w∧sv.rel ρ v) :
 PureOK P o e H sv [] where
 below n _ _:=hb n
 run ρ a w hr _:=h ρ a w hr
theorem cf0{P:Program}{op:BinOp}{k:IntKind}{x y:Int}{K:PK}(hs:ax2 op=false)(h:bn4 op k x y K)(t:TypeId) :
 ∃sv,K sv []∧(∀n,sv.below n)∧∀(ρ:Jn),∃v,sv.rel ρ v∧∀w,(binOp op t (.int k x) (.int k y)).run P w=.ok v w:=by
 cases op <;> simp only[bn4]at h <;> (try (exact h.elim)) <;> (try (simp[ax2]at hs))
 case add=>obtain⟨z,hz,hK⟩:=h;exact⟨_,hK,fun n=>YJ n _ _,fun ρ=>⟨_,rfl,fun w=>by simp[binOp,Op.intArith,hz]⟩⟩
 case sub=>obtain⟨z,hz,hK⟩:=h;exact⟨_,hK,fun n=>YJ n _ _,fun ρ=>⟨_,rfl,fun w=>by simp[binOp,Op.intArith,hz]⟩⟩
 case mul=>obtain⟨z,hz,hK⟩:=h;exact⟨_,hK,fun n=>YJ n _ _,fun ρ=>⟨_,rfl,fun w=>by simp[binOp,Op.intArith,hz]⟩⟩
 case quo=>obtain⟨hy,z,hz,hK⟩:=h;exact⟨_,hK,fun n=>YJ n _ _,fun ρ=>⟨_,rfl,fun w=>by simp[binOp,Op.intDiv,hy,hz]⟩⟩
 case rem=>obtain⟨hy,z,hz,hK⟩:=h;exact⟨_,hK,fun n=>YJ n _ _,fun ρ=>⟨_,rfl,fun w=>by simp[binOp,Op.intDiv,hy,hz]⟩⟩
 case eql=>exact⟨_,h,fun n=>VD n _,fun ρ=>⟨_,rfl,fun w=>by simp[binOp,Op.intCmp]⟩⟩
 case neq=>exact⟨_,h,fun n=>VD n _,fun ρ=>⟨_,rfl,fun w=>by simp[binOp,Op.intCmp]⟩⟩
 case lss=>exact⟨_,h,fun n=>VD n _,fun ρ=>⟨_,rfl,fun w=>by simp[binOp,Op.intCmp]⟩⟩
 case leq=>exact⟨_,h,fun n=>VD n _,fun ρ=>⟨_,rfl,fun w=>by simp[binOp,Op.intCmp]⟩⟩
 case gtr=>exact⟨_,h,fun n=>VD n _,fun ρ=>⟨_,rfl,fun w=>by simp[binOp,Op.intCmp]⟩⟩
 case geq=>exact⟨_,h,fun n=>VD n _,fun ρ=>⟨_,rfl,fun w=>by simp[binOp,Op.intCmp]⟩⟩
 case and=>obtain⟨z,hz,hK⟩:=h;simp only[KO,Option.some.injEq]at hz;exact⟨_,hK,fun n=>YJ n _ _,fun ρ=>⟨_,rfl,fun w=>by simp[binOp,Op.intBits,←hz]⟩⟩
 case or=>obtain⟨z,hz,hK⟩:=h;simp only[KO,Option.some.injEq]at hz;exact⟨_,hK,fun n=>YJ n _ _,fun ρ=>⟨_,rfl,fun w=>by simp[binOp,Op.intBits,←hz]⟩⟩
 case xor=>obtain⟨z,hz,hK⟩:=h;simp only[KO,Option.some.injEq]at hz;exact⟨_,hK,fun n=>YJ n _ _,fun ρ=>⟨_,rfl,fun w=>by simp[binOp,Op.intBits,←hz]⟩⟩
 case andNot=>obtain⟨z,hz,hK⟩:=h;simp only[KO,Option.some.injEq]at hz;exact⟨_,hK,fun n=>YJ n _ _,fun ρ=>⟨_,rfl,fun w=>by simp[binOp,Op.intBits,←hz]⟩⟩
theorem cf1{P:Program}{op:BinOp}{k k':IntKind}{x y:Int}{K:PK}(h:bn5 op k x y K)(t:TypeId) :
 ∃sv,K sv []∧(∀n,sv.below n)∧∀(ρ:Jn),∃v,sv.rel ρ v∧∀w,(binOp op t (.int k x) (.int k' y)).run P w=.ok v w:=by
 cases op <;> simp only[bn5]at h <;> (try (exact h.elim))
 case shl=>obtain⟨hy,z,hz,hK⟩:=h;exact⟨_,hK,fun n=>YJ n _ _,fun ρ=>⟨_,rfl,fun w=>by simp[binOp,Op.shift,Int.not_lt.2 hy,hz]⟩⟩
 case shr=>obtain⟨hy,z,hz,hK⟩:=h;exact⟨_,hK,fun n=>YJ n _ _,fun ρ=>⟨_,rfl,fun w=>by simp[binOp,Op.shift,Int.not_lt.2 hy,hz]⟩⟩
theorem aG7{ρ:Jn}:∀ {l:List SC} {zs:List Int} {vs:List Value},ap1 l=some zs→Yb ρ l vs→vs=zs.map (Value.int .i64)
 | [],zs,[],h,_=>by simp[ap1]at h;subst h;rfl
 | [],_,_::_,_,hr=>hr.elim
 |_::_,_,[],_,hr=>hr.elim
 |c::l,zs,v::vs,h,hr=>by
  simp only[ap1]at h;cases hc:aW7 c with
  |none=>simp[hc]at h
  |some z =>
   cases hl:ap1 l with
   |none=>simp[hc,hl]at h
   |some zs' =>
    simp[hc,hl]at h;subst h;have h1:=aG7 hl hr.2;have h2:v=.int .i64 z:=by
     have hr1:=hr.1;cases c with
     |v y =>
      simp only[SC.rel]at hr1;subst hr1;unfold aW7 at hc;split at hc
      ·rename_i z' heq
       simp only[SC.v.injEq]at heq;simp at hc;rw[heq,hc]
      ·cases hc
     |_=>simp[aW7]at hc
    simp[h1,h2]
theorem aG8{ρ:Jn}:∀ {l:List SC} {zs:List Value} {vs:List Value},ap2 l=some zs→Yb ρ l vs→vs=zs
 | [],zs,[],h,_=>by simp[ap2]at h;subst h;rfl
 | [],_,_::_,_,hr=>hr.elim
 |_::_,_,[],_,hr=>hr.elim
 |c::l,zs,v::vs,h,hr=>by
  simp only[ap2]at h;cases hc:aW8 c with
  |none=>simp[hc]at h
  |some z =>
   cases hl:ap2 l with
   |none=>simp[hc,hl]at h
   |some zs' =>
    simp[hc,hl]at h;subst h;have h1:=aG8 hl hr.2;have h2:v=z:=by
     have hr1:=hr.1;cases c with
     |v y=>simp only[SC.rel]at hr1;simp only[aW8,Option.some.injEq]at hc;rw[hr1,hc]
     |b y=>simp only[SC.rel]at hr1;simp only[aW8,Option.some.injEq]at hc;rw[hr1,hc]
     |_=>simp[aW8]at hc
    rw[h1,h2]
theorem Qq{P:Program}{B:List (Nat×TI)}(hB:am1 P B){t:TypeId}{ti:TI}(h:Ji B t=some ti)(w:World) :
 ∃d,(underlying t).run P w=.ok d w∧VM d=ti.kd:=bB4 w (hB.get h)
theorem bB6{d:TypeDesc}(h:VM d=.bool):d=.bool:=by cases d <;> simp[VM]at h;rfl
theorem aG9{d:TypeDesc}{e:TypeId}(h:VM d=.ptr e):d=.pointer e:=by cases d <;> simp[VM]at h;rw[h]
theorem aa6{d:TypeDesc}{e:TypeId}(h:VM d=.slice e):d=.slice e:=by cases d <;> simp[VM]at h;rw[h]
theorem aT1{d:TypeDesc}{n:Nat}{e:TypeId}(h:VM d=.array n e):d=.array n e:=by cases d <;> simp[VM]at h;rw[h.1,h.2]
theorem bn7{d:TypeDesc}{k:IntKind}(h:VM d=.int k):d=.int k:=by cases d <;> simp[VM]at h;rw[h]
theorem aH0{d:TypeDesc}{fs:List (Nat×TypeId)}(h:VM d=.struct fs):∃fields,d=.struct fields∧fields.toList.map (fun f=>(f.offset,f.type))=fs:=by
 cases d <;> simp[VM]at h
 exact⟨_,rfl,h⟩
theorem bS2{P:Program}{t:TypeId}{w:World}(d:Nat)(a b:Bool)(h:(underlying t).run P w=.ok .bool w) :
 (Op.equalIn (d+1) t (.bool a) (.bool b)).run P w=.ok (a==b) w:=by simp[Op.equalIn,h]
theorem bB7{P:Program}{t:TypeId}{w:World}(a b:Bool)(h:(underlying t).run P w=.ok .bool w) :
 (Op.equal t (.bool a) (.bool b)).run P w=.ok (a==b) w:=bS2 9999 a b h
theorem bS3{P:Program}{t el:TypeId}{w:World}(d:Nat)(a:Addr)(h:(underlying t).run P w=.ok (.pointer el) w) :
 (Op.equalIn (d+1) t (.pointer (some a)) (.pointer none)).run P w=.ok false w:=by simp[Op.equalIn,h]
theorem bd7{P:Program}{t el:TypeId}{w:World}(a:Addr)(h:(underlying t).run P w=.ok (.pointer el) w) :
 (Op.equal t (.pointer (some a)) (.pointer none)).run P w=.ok false w:=bS3 9999 a h
theorem bS4{P:Program}{t el:TypeId}{w:World}(d:Nat)(h:(underlying t).run P w=.ok (.pointer el) w) :
 (Op.equalIn (d+1) t (.pointer none) (.pointer none)).run P w=.ok true w:=by simp[Op.equalIn,h]
theorem bd8{P:Program}{t el:TypeId}{w:World}(h:(underlying t).run P w=.ok (.pointer el) w) :
 (Op.equal t (.pointer none) (.pointer none)).run P w=.ok true w:=bS4 9999 h
theorem bG8{P:Program}{t el:TypeId}{w:World}(d:Nat)(a:Option Addr)(n c:Nat)(h:(underlying t).run P w=.ok (.slice el) w) :
 (Op.equalIn (d+1) t (.slice a n c) (.slice none 0 0)).run P w=.ok a.isNone w:=by cases a <;> simp[Op.equalIn,h]
theorem cf2{P:Program}{t el:TypeId}{w:World}(a:Option Addr)(n c:Nat)(h:(underlying t).run P w=.ok (.slice el) w) :
 (Op.equal t (.slice a n c) (.slice none 0 0)).run P w=.ok a.isNone w:=bG8 9999 a n c h
theorem ct6{P:Program}{B:Tabs}(hB:TabsOK P B){op:BinOp}{t:TypeId}{a b:Bool}{K:PK}(h:bd6.boolK B op t a b K) :
 ∃sv,K sv []∧(∀n,sv.below n)∧∀(ρ:Jn),∃v,sv.rel ρ v∧∀w (x y:Operand),((do eqGuard op t x y (.bool a) (.bool b);binOp op t (.bool a) (.bool b):Sem Value)).run P w=.ok v w:=by
 unfold bd6.boolK at h;split at h
 ·rename_i s0 b0 z0 hl
  refine⟨_,h,fun n=>VD n _,fun ρ=>⟨_,rfl,fun w x y=>?_⟩⟩;obtain⟨d,hd,hk⟩:=Qq hB.T hl w;have:=bB6 hk;subst this;simp[eqGuard,binOp,bB7 a b hd]
 ·rename_i s0 b0 z0 hl
  refine⟨_,h,fun n=>VD n _,fun ρ=>⟨_,rfl,fun w x y=>?_⟩⟩;obtain⟨d,hd,hk⟩:=Qq hB.T hl w;have:=bB6 hk;subst this;simp[eqGuard,binOp,bB7 a b hd,bne]
 ·exact h.elim
theorem cB3{P:Program}{B:Tabs}(hB:TabsOK P B){o:Oper}{e:Env}{H:Je}{op:BinOp}{t yt:TypeId}{x y:Operand}{K:PK}(ho:o.op=.binOp op t x y yt)
 (h:bd6 B op t (ev e x) (ev e y) K):∃sv rd,K sv rd∧PureOK P o e H sv rd:=by
 have fin:(∃sv,K sv []∧(∀n,sv.below n)∧∀(ρ:Jn) (vx vy:Value),(ev e x).rel ρ vx→(ev e y).rel ρ vy→∃v,sv.rel ρ v ∧
  ∀w,((do eqGuard op t x y vx vy;binOp op t vx vy:Sem Value)).run P w=.ok v w)→∃sv rd,K sv rd∧PureOK P o e H sv rd:=by
  rintro ⟨sv,hK,hb,hr⟩
  refine⟨sv,[],hK,Xp hb fun ρ a w hf=>?_⟩;have hx:=Jg (x:=x) (by simp[ho,Op.operands]) hf;have hy:=Jg (x:=y) (by simp[ho,Op.operands]) hf;obtain⟨v,hv,hrun⟩:=hr ρ _ _ hx hy;refine⟨v, ?_,hv⟩;have:=hrun w;simp only[execOp,ho,Sem.run_bind]at this ⊢;rw[this];rfl
 refine fin ?_;generalize ev e x=sx at h;generalize ev e y=sy at h
 have boolCase:∀a b:Bool,bd6.boolK B op t a b K→(∀ρ vx,sx.rel ρ vx→vx=.bool a)→(∀ρ vy,sy.rel ρ vy→vy=.bool b) →
  ∃sv,K sv []∧(∀n,sv.below n)∧∀(ρ:Jn) (vx vy:Value),sx.rel ρ vx→sy.rel ρ vy→∃v,sv.rel ρ v ∧
   ∀w,((do eqGuard op t x y vx vy;binOp op t vx vy:Sem Value)).run P w=.ok v w:=by
  intro a b h hx hy;obtain⟨sv,hK,hb,hr⟩:=ct6 hB h;refine⟨sv,hK,hb,fun ρ vx vy h1 h2=>?_⟩;obtain⟨v,hv,hrun⟩:=hr ρ;rw[hx _ _ h1,hy _ _ h2];exact⟨v,hv,fun w=>hrun w x y⟩
 have ptrCase:∀(sv:SV) (a:Option Addr→Prop),K sv []→(∀n,sv.below n)→(∃r:Bool,(∀ρ,sv.rel ρ (.bool r)) ∧
  (∀ρ vx vy,sx.rel ρ vx→sy.rel ρ vy→∀w,((do eqGuard op t x y vx vy;binOp op t vx vy:Sem Value)).run P w=.ok (.bool r) w)) →
  ∃sv,K sv []∧(∀n,sv.below n)∧∀(ρ:Jn) (vx vy:Value),sx.rel ρ vx→sy.rel ρ vy→∃v,sv.rel ρ v ∧
   ∀w,((do eqGuard op t x y vx vy;binOp op t vx vy:Sem Value)).run P w=.ok v w:=by
  rintro sv _ hK hb ⟨r,hs,hr⟩
  exact⟨sv,hK,hb,fun ρ vx vy h1 h2=>⟨.bool r,hs ρ,hr ρ vx vy h1 h2⟩⟩
 unfold bd6 at h;split at h
 ·rename_i k a k' b
  cases hs:ax2 op with
  |true =>
   simp only[hs,cond_true]at h;obtain⟨sv,hK,hb,hr⟩:=cf1 (P:=P) (k':=k') h t;refine⟨sv,hK,hb,fun ρ vx vy h1 h2=>?_⟩;obtain⟨v,hv,hrun⟩:=hr ρ;simp only[SV.rel,SC.rel]at h1 h2;subst h1;subst h2;refine⟨v,hv,fun w=>?_⟩;have:=hrun w;cases op <;> simp[ax2]at hs <;> simpa [eqGuard] using this
  |false =>
   simp only[hs,cond_false]at h;cases hk:aS9 k k' with
   |false=>simp[hk]at h
   |true =>
    simp only[hk,cond_true]at h;have:=aN7 hk;subst this;obtain⟨sv,hK,hb,hr⟩:=cf0 (P:=P) hs h t;refine⟨sv,hK,hb,fun ρ vx vy h1 h2=>?_⟩;obtain⟨v,hv,hrun⟩:=hr ρ;simp only[SV.rel,SC.rel]at h1 h2;subst h1;subst h2;refine⟨v,hv,fun w=>?_⟩;have:=hrun w;cases op <;> simpa [eqGuard] using this
 ·split at h
  ·rename_i hl
   refine ptrCase _ (fun _=>True) h (fun n=>WT n _) ⟨false,fun ρ=>rfl,fun ρ vx vy h1 h2 w=>?_⟩;simp only[SV.rel,SC.rel]at h1 h2;subst h1;subst h2;obtain⟨d,hd,hk⟩:=Qq hB.T hl w;have:=aG9 hk;subst this;simp[eqGuard,binOp,bd7 _ hd]
  ·rename_i hl
   refine ptrCase _ (fun _=>True) h (fun n=>WT n _) ⟨true,fun ρ=>rfl,fun ρ vx vy h1 h2 w=>?_⟩;simp only[SV.rel,SC.rel]at h1 h2;subst h1;subst h2;obtain⟨d,hd,hk⟩:=Qq hB.T hl w;have:=aG9 hk;subst this;simp[eqGuard,binOp,bd7 _ hd]
  ·exact h.elim
 ·split at h
  ·rename_i hl
   refine ptrCase _ (fun _=>True) h (fun n=>WT n _) ⟨true,fun ρ=>rfl,fun ρ vx vy h1 h2 w=>?_⟩;simp only[SV.rel,SC.rel]at h1 h2;subst h1;subst h2;obtain⟨d,hd,hk⟩:=Qq hB.T hl w;have:=aG9 hk;subst this;simp[eqGuard,binOp,bd8 hd]
  ·rename_i hl
   refine ptrCase _ (fun _=>True) h (fun n=>WT n _) ⟨false,fun ρ=>rfl,fun ρ vx vy h1 h2 w=>?_⟩;simp only[SV.rel,SC.rel]at h1 h2;subst h1;subst h2;obtain⟨d,hd,hk⟩:=Qq hB.T hl w;have:=aG9 hk;subst this;simp[eqGuard,binOp,bd8 hd]
  ·exact h.elim
 ·rename_i k st len sz
  have slc:∀(el s0 b0:Nat) (z0:List Value),Ji B.T t=some ⟨.slice el,s0,b0,z0⟩→∀(ρ:Jn) (vx vy:Value),(SV.c (.s k st len sz)).rel ρ vx→(SV.c (.v (.slice none 0 0))).rel ρ vy →
   ∃b:Bool,(0<len→b=false)∧∀w,(Op.equal t vx vy).run P w=.ok b w:=by
   intro el s0 b0 z0 hl ρ vx vy h1 h2;simp only[SV.rel,SC.rel]at h1 h2;obtain⟨a,rfl,hcap,ha⟩:=h1;subst h2;refine⟨a.isNone,fun hp=>by rw[ha (by omega)];rfl,fun w=>?_⟩;obtain⟨d,hd,hk⟩:=Qq hB.T hl w;have:=aa6 hk;subst this;exact cf2 a _ _ hd
  split at h
  ·rename_i el s0 b0 z0 hl
   rcases Nat.eq_zero_or_pos len with h0|h0
   ·refine⟨_,h.1 h0,(fun n=>by rw[SV.below_c];intro k hk;cases hk),fun ρ vx vy h1 h2=>?_⟩;obtain⟨b,_,hb⟩:=slc _ _ _ _ hl ρ vx vy h1 h2;refine⟨.bool b,⟨b,rfl⟩,fun w=>?_⟩;obtain⟨a,rfl,_⟩:=h1;simp only[SV.rel,SC.rel]at h2;subst h2;simp[eqGuard,binOp,hb]
   ·refine⟨_,h.2 h0,fun n=>WT n _,fun ρ vx vy h1 h2=>?_⟩;obtain⟨b,hbf,hb⟩:=slc _ _ _ _ hl ρ vx vy h1 h2;refine⟨.bool b,by rw[hbf h0];rfl,fun w=>?_⟩;obtain⟨a,rfl,_⟩:=h1;simp only[SV.rel,SC.rel]at h2;subst h2;simp[eqGuard,binOp,hb]
  ·rename_i el s0 b0 z0 hl
   rcases Nat.eq_zero_or_pos len with h0|h0
   ·refine⟨_,h.1 h0,(fun n=>by rw[SV.below_c];intro k hk;cases hk),fun ρ vx vy h1 h2=>?_⟩;obtain⟨b,_,hb⟩:=slc _ _ _ _ hl ρ vx vy h1 h2;refine⟨.bool (!b),⟨!b,rfl⟩,fun w=>?_⟩;obtain⟨a,rfl,_⟩:=h1;simp only[SV.rel,SC.rel]at h2;subst h2;simp[eqGuard,binOp,hb]
   ·refine⟨_,h.2 h0,fun n=>WT n _,fun ρ vx vy h1 h2=>?_⟩;obtain⟨b,hbf,hb⟩:=slc _ _ _ _ hl ρ vx vy h1 h2;refine⟨.bool (!b),by rw[hbf h0];rfl,fun w=>?_⟩;obtain⟨a,rfl,_⟩:=h1;simp only[SV.rel,SC.rel]at h2;subst h2;simp[eqGuard,binOp,hb]
  ·exact h.elim
 ·exact boolCase _ _ h (fun ρ vx hx=>hx) (fun ρ vx hx=>hx)
 ·exact boolCase _ _ h (fun ρ vx hx=>hx) (fun ρ vx hx=>hx)
 ·exact boolCase _ _ h (fun ρ vx hx=>hx) (fun ρ vx hx=>hx)
 ·exact boolCase _ _ h (fun ρ vx hx=>hx) (fun ρ vx hx=>hx)
 ·rename_i l l'
  split at h
  ·rename_i n k hD
   unfold cB2 at h;split at h
   ·rename_i xs ys hxs hys
    cases hc:(Nat.beq xs.length n&&Nat.beq ys.length n)&&(af3 k xs&&af3 k ys)with
    |false=>simp[hc]at h
    |true =>
     simp only[hc,cond_true]at h;simp only[Bool.and_eq_true]at hc;have hE:=hB.D t n k (bg4 hD) xs ys (Nat.eq_of_beq_eq_true hc.1.1) (Nat.eq_of_beq_eq_true hc.1.2) hc.2.1 hc.2.2;have hv:∀(ρ:Jn) (vx vy:Value),(SV.agg l).rel ρ vx→(SV.agg l').rel ρ vy→vx=.agg xs.toArray∧vy=.agg ys.toArray:=by
      rintro ρ _ _ ⟨a1,rfl,h1⟩ ⟨a2,rfl,h2⟩
      exact⟨by rw[←aG8 hxs h1],by rw[←aG8 hys h2]⟩
     split at h
     ·refine⟨_,h,fun n=>VD n _,fun ρ vx vy h1 h2=>⟨_,rfl,fun w=>?_⟩⟩;obtain⟨rfl,rfl⟩:=hv ρ vx vy h1 h2;have:=hE w x y;simp only[Sem.run_bind,this.1,Result.andThen_ok];simp[binOp]at this ⊢;simp[this.2.2]
     ·refine⟨_,h,fun n=>VD n _,fun ρ vx vy h1 h2=>⟨_,rfl,fun w=>?_⟩⟩;obtain⟨rfl,rfl⟩:=hv ρ vx vy h1 h2;have:=hE w x y;simp only[Sem.run_bind,this.2.1,Result.andThen_ok];simp[binOp]at this ⊢;simp[this.2.2]
     ·exact h.elim
   ·exact h.elim
  unfold bS1 at h;split at h
  ·rename_i n xs ys hn hxs hys
   cases hc:Nat.beq xs.length n&&Nat.beq ys.length n with
   |false=>simp[hc]at h
   |true =>
    simp only[hc,cond_true]at h;have hlen:xs.length=n∧ys.length=n:=by
     simp only[Bool.and_eq_true]at hc;exact⟨Nat.eq_of_beq_eq_true hc.1,Nat.eq_of_beq_eq_true hc.2⟩
    have hE:=hB.E t n (as5 hn) xs ys hlen.1 hlen.2;have hv:∀(ρ:Jn) (vx vy:Value),(SV.agg l).rel ρ vx→(SV.agg l').rel ρ vy→vx=Yv xs∧vy=Yv ys:=by
     rintro ρ _ _ ⟨a1,rfl,h1⟩ ⟨a2,rfl,h2⟩
     have e1:=aG7 hxs h1;have e2:=aG7 hys h2;refine⟨?_, ?_⟩
     ·simp only[Yv,←e1]
     ·simp only[Yv,←e2]
    split at h
    ·refine⟨_,h,fun n=>VD n _,fun ρ vx vy h1 h2=>⟨_,rfl,fun w=>?_⟩⟩;obtain⟨rfl,rfl⟩:=hv ρ vx vy h1 h2;have:=hE w x y;simp only[Sem.run_bind,this.1,Result.andThen_ok];simp[binOp,Yv]at this ⊢;simp[this.2.2]
    ·refine⟨_,h,fun n=>VD n _,fun ρ vx vy h1 h2=>⟨_,rfl,fun w=>?_⟩⟩;obtain⟨rfl,rfl⟩:=hv ρ vx vy h1 h2;have:=hE w x y;simp only[Sem.run_bind,this.2.1,Result.andThen_ok];simp[binOp,Yv]at this ⊢;simp[this.2.2,bne]
    ·exact h.elim
  ·exact h.elim
 ·exact h.elim
end Sx
end Go
namespace Go
namespace Sx
def unK(op:UnOp)(x:SV)(K:PK):Prop :=
 match op,x with
 | .not, .c (.b true)=>K (.c (.b false)) []
 | .not, .c (.b false)=>K (.c (.b true)) []
 | .not, .c (.v (.bool t))=>K (bv (!t)) []
 | .neg, .c (.v (.int k n))=>∃z,k.wrap (0-n)=z∧K (iv k z) []
 |_,_=>False
theorem cG6{P:Program}{o:Oper}{e:Env}{H:Je}{op:UnOp}{t:TypeId}{x:Operand}{K:PK}(ho:o.op=.unOp op t x)
 (h:unK op (ev e x) K):∃sv rd,K sv rd∧PureOK P o e H sv rd:=by
 have hx:x∈o.op.operands.toList:=by simp[ho,Op.operands]
 unfold unK at h;split at h
 ·rename_i he
  refine⟨_,_,h,Xp (fun n=>WT n _) fun ρ a w hr=>⟨.bool false, ?_,rfl⟩⟩;have:=Jg hx hr;rw[he]at this;simp only[SV.rel,SC.rel]at this;simp[execOp,ho,this,Op.unary]
 ·rename_i he
  refine⟨_,_,h,Xp (fun n=>WT n _) fun ρ a w hr=>⟨.bool true, ?_,rfl⟩⟩;have:=Jg hx hr;rw[he]at this;simp only[SV.rel,SC.rel]at this;simp[execOp,ho,this,Op.unary]
 ·rename_i t0 he
  refine⟨_,_,h,Xp (fun n=>VD n _) fun ρ a w hr=>⟨.bool (!t0), ?_,rfl⟩⟩;have:=Jg hx hr;rw[he]at this;simp only[SV.rel,SC.rel]at this;simp[execOp,ho,this,Op.unary]
 ·rename_i k n he
  obtain⟨z,hz,hK⟩:=h;refine⟨_,_,hK,Xp (fun n=>YJ n _ _) fun ρ a w hr=>⟨.int k z, ?_,rfl⟩⟩;have:=Jg hx hr;rw[he]at this;simp only[SV.rel,SC.rel]at this;have hz':k.wrap (0-n)=z:=hz;simp only[execOp,ho,this,Op.unary,Op.intArith,hz'];rfl
 ·exact h.elim
def bG9(B:Tabs)(s d:TypeId)(x:SV)(K:PK):Prop :=
 match x,Ji B.T s,Ji B.T d with
 | .c (.v (.int _ n)),some ⟨.int _,_,_,_⟩,some ⟨.int k',_,_,_⟩=>∃z,k'.wrap n=z∧K (iv k' z) []
 |_,_,_=>False
theorem ct7{P:Program}{B:Tabs}(hB:TabsOK P B){o:Oper}{e:Env}{H:Je}{s d:TypeId}{x:Operand}{K:PK}(ho:o.op=.convert s d x)
 (h:bG9 B s d (ev e x) K):∃sv rd,K sv rd∧PureOK P o e H sv rd:=by
 have hx:x∈o.op.operands.toList:=by simp[ho,Op.operands]
 unfold bG9 at h;split at h
 ·rename_i k n k0 s0 b0 z0 k' s1 b1 z1 he hs hd
  obtain⟨z,hz,hK⟩:=h;refine⟨_,_,hK,Xp (fun n=>YJ n _ _) fun ρ a w hr=>⟨.int k' z, ?_,rfl⟩⟩;have:=Jg hx hr;rw[he]at this;simp only[SV.rel,SC.rel]at this;obtain⟨ds,hds,hks⟩:=Qq hB.T hs w;obtain⟨dd,hdd,hkd⟩:=Qq hB.T hd w;have e1:=bn7 hks;have e2:=bn7 hkd;subst e1;subst e2;simp[execOp,ho,this,Go.convert,hds,hdd,Conv.intToInt,hz]
 ·exact h.elim
theorem VV(ρ:Jn)(k m n:Nat):(Jr ρ k m).add n=Jr ρ k (m+n):=by
 simp only[Jr,Addr.add];by_cases h:n=0
 ·simp[h]
 ·simp[h,Nat.add_assoc]
def faK(B:Tabs)(s:TypeId)(x:SV)(f:Nat)(K:PK):Prop :=
 match x,Ji B.T s with
 | .c (.p k i sz off),some ⟨.struct fs,_,_,_⟩=>match fs[f]? with
  |some (fo,ft)=>match Ji B.T ft with
   |some ti=>bif Nat.beq ti.size 0 then False else K (.c (.p k i sz (off+fo))) []
   |none=>False
  |none=>False
 |_,_=>False
theorem QY{P:Program}{B:Tabs}(hB:TabsOK P B){t:TypeId}{ti:TI}(h:Ji B.T t=some ti)(w:World):(sizeOf t).run P w=.ok ti.size w :=
 ce7 w (hB.T.get h)
theorem aA3{fields:Array Field}{fs:List (Nat×TypeId)}(h:fields.toList.map (fun f=>(f.offset,f.type))=fs){f fo ft:Nat}(hf:fs[f]? = some (fo,ft)) :
 ∃fld,fields[f]? = some fld∧fld.offset=fo∧fld.type=ft:=by
 rw[←h,List.getElem?_map]at hf;cases hx:fields.toList[f]? with
 |none=>simp[hx]at hf
 |some fld =>
  simp[hx]at hf;exact⟨fld,by simpa using hx,hf.1,hf.2⟩
theorem cG7{P:Program}{B:Tabs}(hB:TabsOK P B){o:Oper}{e:Env}{H:Je}{s:TypeId}{x:Operand}{f:Nat}{K:PK}(ho:o.op=.fieldAddr s x f)
 (h:faK B s (ev e x) f K):∃sv rd,K sv rd∧PureOK P o e H sv rd:=by
 have hx:x∈o.op.operands.toList:=by simp[ho,Op.operands]
 unfold faK at h;split at h
 ·rename_i k i sz off fs s0 b0 z0 he hs
  split at h
  ·rename_i fo ft hf
   split at h
   ·rename_i ti hti
    cases hz:Nat.beq ti.size 0 with
    |true=>simp[hz]at h
    |false =>
     simp only[hz,cond_false]at h;refine⟨_,_,h, ?_, ?_⟩
     ·intro n hn _;have:=Qy hx hn;rw[he]at this;rw[SV.below_c]at this ⊢;exact this
     ·intro ρ a w hr _;have:=Jg hx hr;rw[he]at this;simp only[SV.rel,SC.rel]at this;obtain⟨ds,hds,hks⟩:=Qq hB.T hs w;obtain⟨fields,rfl,hfs⟩:=aH0 hks;obtain⟨fld,hfld,rfl,rfl⟩:=aA3 hfs hf;have hsz:=QY hB hti w;have hne:¬ti.size=0:=Nat.ne_of_beq_eq_false hz;refine⟨.pointer (some (Jr ρ k (i*sz+(off+fld.offset)))), ?_,rfl⟩;simp[execOp,ho,this,Instr.fieldAt,hds,hfld,Instr.sureAddr,fieldPlace,hsz,hne,VV,Nat.add_assoc]
   ·exact h.elim
  ·exact h.elim
 ·exact h.elim
def bH0(ti:TI)(l:List SC)(off:Nat)(rd:List Nat)(K:PK):Prop :=
 bif ti.kd.isAgg then K (.agg ((l.drop off).take ti.size)) rd else match l[off]? with
  |some c=>K (.c c) rd
  |none=>False
theorem Xu{ρ:Jn}:∀ {l:List SC} {vs:List Value},Yb ρ l vs→l.length=vs.length
 | [],[],_=>rfl
 | [],_::_,h=>h.elim
 |_::_,[],h=>h.elim
 |_::_,_::_,h=>by simp[Xu h.2]
theorem GO{ρ:Jn}:∀ {l:List SC} {vs:List Value} {i:Nat} {c:SC},Yb ρ l vs→l[i]? = some c→∃v,vs[i]? = some v∧c.rel ρ v
 | [],_,_,_,_,h=>by simp at h
 |_::_,[],_,_,hr,_=>hr.elim
 |c::l,v::vs,0,x,hr,h=>by simp at h;subst h;exact⟨v,by simp,hr.1⟩
 |c::l,v::vs,i+1,x,hr,h=>by
  obtain⟨u,hu,hx⟩:=GO (i:=i) hr.2 (by simpa using h);exact⟨u,by simpa using hu,hx⟩
theorem aH1{ρ:Jn}:∀(n:Nat) {l:List SC} {vs:List Value},Yb ρ l vs→Yb ρ (l.drop n) (vs.drop n)
 |0,_,_,h=>by simpa using h
 |_+1,[],[],_=>by simp[Yb]
 |_+1,[],_::_,h=>h.elim
 |_+1,_::_,[],h=>h.elim
 |n+1,_::l,_::vs,h=>by simpa using aH1 n h.2
theorem aH2{ρ:Jn}:∀(n:Nat) {l:List SC} {vs:List Value},Yb ρ l vs→Yb ρ (l.take n) (vs.take n)
 |0,_,_,_=>by simp[Yb]
 |_+1,[],[],_=>by simp[Yb]
 |_+1,[],_::_,h=>h.elim
 |_+1,_::_,[],h=>h.elim
 |n+1,_::l,_::vs,h=>by simpa [Yb] using ⟨h.1,aH2 n h.2⟩
theorem av1{ρ:Jn}:∀ {l l':List SC} {vs vs':List Value},Yb ρ l vs→Yb ρ l' vs'→Yb ρ (l++l') (vs++vs')
 | [],_,[],_,_,h=>by simpa using h
 | [],_,_::_,_,h,_=>h.elim
 |_::_,_,[],_,h,_=>h.elim
 |_::l,_,_::vs,_,h,h'=>by simpa [Yb] using ⟨h.1,av1 h.2 h'⟩
theorem ct8{P:Program}{B:Tabs}(hB:TabsOK P B){t:TypeId}{ti:TI}(ht:Ji B.T t=some ti){l:List SC}{off:Nat}{rd:List Nat}{K:PK}(h:bH0 ti l off rd K) :
 ∃sv,K sv rd∧(∀n,(SV.agg l).below n→sv.below n)∧∀(ρ:Jn) (xs:Array Value) (w:World),Yb ρ l xs.toList→∃v,(part t xs off).run P w=.ok v w∧sv.rel ρ v:=by
 unfold bH0 at h;cases ha:ti.kd.isAgg with
 |true =>
  simp only[ha,cond_true]at h;refine⟨_,h, ?_, ?_⟩
  ·intro n hn k hk;refine hn k ?_;simp only[SV.uses]at hk ⊢;obtain⟨c,hc,hu⟩:=Qo.1 hk;exact Qo.2 ⟨c,List.mem_of_mem_drop (List.mem_of_mem_take hc),hu⟩
  ·intro ρ xs w hr;have h1:=WP w (hB.T.get ht);have h2:=QY hB ht w;refine⟨.agg (xs.extract off (off+ti.size)),by simp[part,h1,ha,h2],_,rfl, ?_⟩;have:=aH2 ti.size (aH1 off hr)
   simpa [Array.toList_extract,List.extract_eq_take_drop] using this
 |false =>
  simp only[ha,cond_false]at h;split at h
  ·rename_i c hc
   refine⟨_,h, ?_, ?_⟩
   ·intro n hn k hk;exact hn k (Qo.2 ⟨c,List.mem_of_getElem? hc,hk⟩)
   ·intro ρ xs w hr;have h1:=WP w (hB.T.get ht);obtain⟨v,hv,hx⟩:=GO hr hc;have hv':xs[off]? = some v:=by simpa using hv
    exact⟨v,by simp[part,h1,ha,hv'],hx⟩
  ·exact h.elim
def bn8(B:Tabs)(s:TypeId)(x:SV)(f:Nat)(K:PK):Prop :=
 match x,Ji B.T s with
 | .agg l,some ⟨.struct fs,_,_,_⟩=>match fs[f]? with
  |some (fo,ft)=>match Ji B.T ft with
   |some ti=>bH0 ti l fo [] K
   |none=>False
  |none=>False
 |_,_=>False
theorem cf3{P:Program}{B:Tabs}(hB:TabsOK P B){o:Oper}{e:Env}{H:Je}{s:TypeId}{x:Operand}{f:Nat}{K:PK}(ho:o.op=.field s x f)
 (h:bn8 B s (ev e x) f K):∃sv rd,K sv rd∧PureOK P o e H sv rd:=by
 have hx:x∈o.op.operands.toList:=by simp[ho,Op.operands]
 unfold bn8 at h;split at h
 ·rename_i l fs s0 b0 z0 he hs
  split at h
  ·rename_i fo ft hf
   split at h
   ·rename_i ti hti
    obtain⟨sv,hK,hb,hrun⟩:=ct8 hB hti h;refine⟨sv,[],hK,fun n hn _=>hb n (by rw[←he];exact Qy hx hn),fun ρ a w hr _=>?_⟩;have:=Jg hx hr;rw[he]at this;obtain⟨xs,hv,hrel⟩:=this;obtain⟨ds,hds,hks⟩:=Qq hB.T hs w;obtain⟨fields,rfl,hfs⟩:=aH0 hks;obtain⟨fld,hfld,rfl,rfl⟩:=aA3 hfs hf;obtain⟨v,hv',hx'⟩:=hrun ρ xs w hrel;exact⟨v,by simp[execOp,ho,hv,Instr.field,hds,hfld,asAgg,hv'],hx'⟩
   ·exact h.elim
  ·exact h.elim
 ·exact h.elim
end Sx
end Go
namespace Go
namespace Sx
def JO:Nat→Nat→Nat
 |0,j=>j
 |s+1,j=>(s+1)+j
theorem Qc(s j:Nat):JO s j=s+j:=by cases s <;> simp[JO]
def iaK(B:Tabs)(t:TypeId)(x ix:SV)(K:PK):Prop :=
 match x,ix,Ji B.T t with
 | .c (.s k st len sz), .c (.v (.int _ n)),some ⟨.slice el,_,_,_⟩=>match Ji B.T el with
  |some ti=>bif Nat.beq ti.size sz then ∃j:Nat,n=(j:Int)∧j<len∧K (.c (.p k (JO st j) sz 0)) []else False
  |none=>False
 | .c (.p k i sz off), .c (.v (.int _ n)),some ⟨.array len el,_,_,_⟩=>match Ji B.T el with
  |some ti=>∃j:Nat,n=(j:Int)∧j<len∧K (.c (.p k i sz (off+j*ti.size))) []
  |none=>False
 |_,_,_=>False
theorem cG8{P:Program}{B:Tabs}(hB:TabsOK P B){o:Oper}{e:Env}{H:Je}{t:TypeId}{x ix:Operand}{K:PK}(ho:o.op=.indexAddr t x ix)
 (h:iaK B t (ev e x) (ev e ix) K):∃sv rd,K sv rd∧PureOK P o e H sv rd:=by
 have hx:x∈o.op.operands.toList:=by simp[ho,Op.operands]
 have hix:ix∈o.op.operands.toList:=by simp[ho,Op.operands]
 unfold iaK at h;split at h
 ·rename_i k st len sz ki n el s0 b0 z0 he hei ht
  split at h
  ·rename_i ti hti
   cases hz:Nat.beq ti.size sz with
   |false=>simp[hz]at h
   |true =>
    simp only[hz,cond_true]at h;obtain⟨j,rfl,hj,hK⟩:=h;refine⟨_,_,hK, ?_, ?_⟩
    ·intro m hm _;have:=Qy hx hm;rw[he]at this;rw[SV.below_c]at this ⊢;exact this
    ·intro ρ a w hr _;have h1:=Jg hx hr;rw[he]at h1;simp only[SV.rel,SC.rel]at h1;have h2:=Jg hix hr;rw[hei]at h2;simp only[SV.rel,SC.rel]at h2;obtain⟨ad,hv,hle,had⟩:=h1;obtain⟨ds,hds,hks⟩:=Qq hB.T ht w;have e1:=aa6 hks;subst e1;have hsz:=QY hB hti w;have hz':=Nat.eq_of_beq_eq_true hz;have had':=had (by omega);subst had';refine⟨.pointer (some (Jr ρ k (JO st j*sz+0))), ?_,rfl⟩;simp[execOp,ho,hv,h2,Instr.indexAt,asIntOf,hds,hj,hsz,hz',VV,Qc,Nat.add_mul]
  ·exact h.elim
 ·rename_i k i sz off ki n len el s0 b0 z0 he hei ht
  split at h
  ·rename_i ti hti
   obtain⟨j,rfl,hj,hK⟩:=h;refine⟨_,_,hK, ?_, ?_⟩
   ·intro m hm _;have:=Qy hx hm;rw[he]at this;rw[SV.below_c]at this ⊢;exact this
   ·intro ρ a w hr _;have h1:=Jg hx hr;rw[he]at h1;simp only[SV.rel,SC.rel]at h1;have h2:=Jg hix hr;rw[hei]at h2;simp only[SV.rel,SC.rel]at h2;obtain⟨ds,hds,hks⟩:=Qq hB.T ht w;have e1:=aT1 hks;subst e1;have hsz:=QY hB hti w;refine⟨.pointer (some (Jr ρ k (i*sz+(off+j*ti.size)))), ?_,rfl⟩;simp[execOp,ho,h1,h2,Instr.indexAt,asIntOf,hds,hj,hsz,Instr.sureAddr,VV,Nat.add_assoc]
  ·exact h.elim
 ·exact h.elim
theorem aH3{P:Program}{w:World}{a:Addr}:∀(vs:List Value) (i:Nat) (acc:Array Value),(∀j v,vs[j]? = some v→w.cell? (a.add (i+j))=some v) →
 (loadCellsFrom a i vs.length acc).run P w=.ok (acc++vs.toArray) w
 | [],_,_,_=>by simp[loadCellsFrom]
 |v::vs,i,acc,h=>by
  have h0:=h 0 v (by simp);simp only[Nat.add_zero]at h0;have ih:=aH3 (P:=P) (w:=w) (a:=a) vs (i+1) (acc.push v) (fun j u hu=>by
   have:=h (j+1) u (by simpa using hu);rw[show i+1+j=i+(j+1)from by omega];exact this)
  simp only[List.length_cons,loadCellsFrom,Sem.run_bind,run_load,h0,Result.andThen_ok,ih];simp
theorem Vx{P:Program}{w:World}{a:Addr}{vs:List Value}(h:∀(j:Nat) v,vs[j]? = some v→w.cell? (a.add j)=some v) :
 (loadCells a vs.length).run P w=.ok vs.toArray w:=by
 unfold loadCells;rw[aH3 vs 0 #[] (fun j v hv=>by simpa using h j v hv)];simp
theorem bn9{ρ:Jn}{w:World}{k:Nat}:∀(cs:List SC) (n:Nat),(∀(j:Nat) c,cs[j]? = some c→∃v,w.cell? (Jr ρ k (n+j))=some v∧c.rel ρ v) →
 ∃vs,Yb ρ cs vs∧∀(j:Nat) v,vs[j]? = some v→w.cell? (Jr ρ k (n+j))=some v
 | [],_,_=>⟨[],trivial,fun _ _ h=>by simp at h⟩
 |c::cs,n,h=>by
  obtain⟨v,hv,hr⟩:=h 0 c (by simp);obtain⟨vs,hvs,hm⟩:=bn9 cs (n+1) (fun j d hd=>by
   have:=h (j+1) d (by simpa using hd);rw[show n+1+j=n+(j+1)from by omega];exact this)
  refine⟨v::vs,⟨hr,hvs⟩,fun j u hu=>?_⟩;cases j with
  |zero=>simp at hu;subst hu;simpa using hv
  |succ j =>
   have:=hm j u (by simpa using hu);rw[show n+(j+1)=n+1+j from by omega];exact this
def as6(ti:TI)(l:List SC)(off:Nat)(rd:List Nat)(K:PK):Prop :=
 bif ti.kd.isAgg then(match(l.drop off).take ti.size with
  |l'=>bif Nat.beq l'.length ti.size then K (.agg l') rd else False)else match l[off]? with
  |some c=>K (.c c) rd
  |none=>False
def bH1(B:Tabs)(t:TypeId)(x:SV)(H:Je)(K:PK):Prop :=
 match x,Ji B.T t with
 | .c (.p k i sz off),some ti=>match look H k with
  |some (_, .cel _ l)=>(match i with
   |0=>as6 ti l off [k] K
   |_+1=>False)
  |some (_, .arr A)=>bif Nat.beq sz A.sz then ∃h:i<A.xs.length,as6 ti (A.enc (A.xs[i]'h)) off [k] K else False
  |_=>False
 |_,_=>False
theorem aT2{P:Program}{B:Tabs}(hB:TabsOK P B){t:TypeId}{ti:TI}(ht:Ji B.T t=some ti){l:List SC}{off:Nat}{rd:List Nat}{K:PK}(h:as6 ti l off rd K) :
 ∃sv,K sv rd∧(∀n,(∀c∈l,c.below n)→sv.below n)∧∀(ρ:Jn) (k n:Nat) (w:World),(∀(j:Nat) c,l[j]? = some c→∃v,w.cell? (Jr ρ k (n+j))=some v∧c.rel ρ v) →
  ∃v,(loadVar t (Jr ρ k (n+off))).run P w=.ok v w∧sv.rel ρ v:=by
 unfold as6 at h;cases ha:ti.kd.isAgg with
 |true =>
  simp only[ha,cond_true]at h;cases hl:Nat.beq ((l.drop off).take ti.size).length ti.size with
  |false=>rw[hl]at h;exact h.elim
  |true =>
   rw[hl]at h;simp only[cond_true]at h;refine⟨_,h, ?_, ?_⟩
   ·intro n hn k hk;obtain⟨c,hc,hu⟩:=Qo.1 hk;obtain⟨j,hj,hm⟩:=SC.uses_iff.1 hu;simp at hm;subst hm;exact hn c (List.mem_of_mem_drop (List.mem_of_mem_take hc)) _ hj
   ·intro ρ k n w hc;obtain⟨vs,hvs,hm⟩:=bn9 (ρ:=ρ) (w:=w) (k:=k) ((l.drop off).take ti.size) (n+off) (fun j c hj=>by
     rw[List.getElem?_take]at hj;by_cases hlt:j<ti.size
     ·rw[if_pos hlt,List.getElem?_drop]at hj;have:=hc (off+j) c hj;rw[Nat.add_assoc];exact this
     ·rw[if_neg hlt]at hj;cases hj)
    have h1:=WP w (hB.T.get ht);have h2:=QY hB ht w;have hlen:vs.length=ti.size:=by rw[←Xu hvs];exact Nat.eq_of_beq_eq_true hl
    have h3:=Vx (P:=P) (w:=w) (a:=Jr ρ k (n+off)) (vs:=vs) (fun j v hv=>by rw[VV];exact hm j v hv);rw[hlen]at h3;exact⟨.agg vs.toArray,by simp[loadVar,h1,ha,h2,h3],_,rfl,by simpa using hvs⟩
 |false =>
  simp only[ha,cond_false]at h;split at h
  ·rename_i c hcc
   refine⟨_,h,fun n hn=>SV.below_c.2 (hn c (List.mem_of_getElem? hcc)), ?_⟩;intro ρ k n w hc;obtain⟨v,hv,hr⟩:=hc off c hcc;have h1:=WP w (hB.T.get ht);exact⟨v,by simp[loadVar,h1,ha,hv],hr⟩
  ·exact h.elim
theorem ct9{P:Program}{B:Tabs}(hB:TabsOK P B){o:Oper}{e:Env}{H:Je}{t:TypeId}{x:Operand}{K:PK}(ho:o.op=.load t x)
 (h:bH1 B t (ev e x) H K):∃sv rd,K sv rd∧PureOK P o e H sv rd:=by
 have hx:x∈o.op.operands.toList:=by simp[ho,Op.operands]
 unfold bH1 at h;split at h
 ·rename_i k i sz off ti he ht
  split at h
  ·rename_i own ty l hl
   split at h
   ·obtain⟨sv,hK,hb,hrun⟩:=aT2 hB ht h;refine⟨sv,_,hK, ?_, ?_⟩
    ·intro n _ hn;have:=(hn k (by simp) own _ hl).2;refine hb n (fun c hc j hj=>this j ?_);exact Qo.2 ⟨c,hc,SC.uses_iff.2 ⟨j,hj,by simp⟩⟩
    ·intro ρ a w hr hs;have h1:=Jg hx hr;rw[he]at h1;simp only[SV.rel,SC.rel]at h1;have hso:=hs k (by simp) own _ hl;obtain⟨v,hv,hrel⟩:=hrun ρ k 0 w (fun j c hc=>by
      have:=hso.at_ 0 j c (by simpa [SO.cell?] using hc)
      simpa [SO.sz] using this)
     refine⟨v, ?_,hrel⟩;simp only[Nat.zero_add,Nat.zero_mul]at hv h1;simp[execOp,ho,h1,Instr.loadAt,Instr.sureAddr,hv]
   ·exact h.elim
  ·rename_i own A hl
   cases hz:Nat.beq sz A.sz with
   |false=>simp[hz]at h
   |true =>
    simp only[hz,cond_true]at h;obtain⟨hi,h⟩:=h;have hz':=Nat.eq_of_beq_eq_true hz;obtain⟨sv,hK,hb,hrun⟩:=aT2 hB ht h;refine⟨sv,_,hK, ?_, ?_⟩
    ·intro n _ hn;have:=(hn k (by simp) own _ hl).2;refine hb n (fun c hc j hj=>this j ?_);exact Qm.2 ⟨j,A.hn _ c hc j hj,by simp⟩
    ·intro ρ a w hr hs;have h1:=Jg hx hr;rw[he]at h1;simp only[SV.rel,SC.rel]at h1;have hso:=hs k (by simp) own _ hl;obtain⟨v,hv,hrel⟩:=hrun ρ k (i*sz) w (fun j c hc=>by
      have:=hso.at_ i j c (by simpa [SO.cell?,hi] using hc)
      simpa [SO.sz,hz'] using this)
     refine⟨v, ?_,hrel⟩;simp[execOp,ho,h1,Instr.loadAt,Instr.sureAddr,hv]
  ·exact h.elim
 ·exact h.elim
end Sx
end Go
namespace Go
namespace Sx
def aj5(e:Env):List Operand→Option (List Nat)
 | []=>some []
 |x::r=>match ev e x with
  | .c (.p k 0 _ 0)=>(match aj5 e r with
   |some ks=>some (k::ks)
   |none=>none)
  |_=>none
def mfK(e:Env)(fn:Fn)(first captured:List Operand)(K:PK):Prop :=
 match fn,first with
 | .func g,[]=>(match aj5 e captured with
  |some ks=>K (.c (.f g ks)) []
  |none=>False)
 |_,_=>False
theorem bo0{ρ:Jn}{e:Env}{a:Act}:∀ {l:List Operand} {ks:List Nat},aj5 e l=some ks→(∀x∈l,(ev e x).rel ρ (a.eval x)) →
 l.map a.eval=ks.map fun k=>Value.pointer (some (Jr ρ k 0))
 | [],ks,h,_=>by simp[aj5]at h;subst h;rfl
 |x::l,ks,h,hr=>by
  simp only[aj5]at h;split at h
  ·rename_i k sz he
   split at h
   ·rename_i ks' hks
    simp at h;subst h;have h1:=hr x (List.mem_cons_self ..);rw[he]at h1;simp only[SV.rel,SC.rel,Nat.zero_mul,Nat.zero_add]at h1;simp[h1,bo0 hks (fun y hy=>hr y (List.mem_cons_of_mem _ hy))]
   ·cases h
  ·cases h
theorem aX0{e:Env}{n:Nat}:∀ {l:List Operand} {ks:List Nat},aj5 e l=some ks→(∀x∈l,(ev e x).below n)→∀k∈ks,k<n
 | [],ks,h,_=>by simp[aj5]at h;subst h;intro k hk;cases hk
 |x::l,ks,h,hr=>by
  simp only[aj5]at h;split at h
  ·rename_i k sz he
   split at h
   ·rename_i ks' hks
    simp at h;subst h;intro j hj;rcases List.mem_cons.1 hj with rfl|hj
    ·have h1:=hr x (List.mem_cons_self ..);rw[he,SV.below_c]at h1;exact h1 j (by simp[SC.nms])
    ·exact aX0 hks (fun y hy=>hr y (List.mem_cons_of_mem _ hy)) j hj
   ·cases h
  ·cases h
theorem cG9{P:Program}{o:Oper}{e:Env}{H:Je}{fn:Fn}{first captured:Array Operand}{K:PK}(ho:o.op=.makeFunc fn first captured)
 (h:mfK e fn first.toList captured.toList K):∃sv rd,K sv rd∧PureOK P o e H sv rd:=by
 unfold mfK at h;split at h
 ·rename_i g hf
  split at h
  ·rename_i ks hks
   have hmem:∀x∈captured.toList,x∈o.op.operands.toList:=fun x hx=>by simp[ho,Op.operands];exact .inr (by simpa using hx)
   refine⟨_,_,h, ?_, ?_⟩
   ·intro n hn _;rw[SV.below_c];exact aX0 hks (fun x hx=>Qy (hmem x hx) hn)
   ·intro ρ a w hr _;have:=bo0 (a:=a) hks (fun x hx=>Jg (hmem x hx) hr);refine⟨_, ?_,rfl⟩;have h1:first=#[]:=by rw[←Array.toList_inj,hf]
    have h2:captured.map a.eval=(ks.map fun k=>Value.pointer (some (Jr ρ k 0))).toArray:=by
     rw[←Array.toList_inj,Array.toList_map,this]
    simp[execOp,ho,Instr.makeFunc,h1,h2]
  ·exact h.elim
 ·exact h.elim
def isC:Operand→Bool
 | .const _=>true
 |_=>false
theorem Vr{P:Program}{o:Oper}{b:Builtin}{c:Call}(ho:o.op=.call c)(hc:c.callee=.builtin b)(a:Act)(w:World) :
 (execOp a.eval o).run P w=(builtin b c.argTypes o.type (c.args.map isC) (c.args.map a.eval)).run P w:=by
 simp only[execOp,ho,resolve,hc,Sem.run_bind,Sem.run_pure,Result.andThen_ok,invoke];rfl
def cB4(B:Tabs)(x:SV)(t:TypeId)(K:PK):Prop :=
 match x,Ji B.T t with
 | .c (.s _ _ len _),some ⟨.slice _,_,_,_⟩=>K (iv .i64 len) []
 | .c (.v (.slice _ n _)),some ⟨.slice _,_,_,_⟩=>K (iv .i64 n) []
 | .c (.v (.string s)),some ⟨.string,_,_,_⟩=>K (iv .i64 s.size) []
 |_,_=>False
def cB5(x y:SV)(K:PK):Prop :=
 match x,y with
 | .c (.v (.int .i64 a)), .c (.v (.int .i64 b))=>K (iv .i64 (min a b)) []
 |_,_=>False
def cB6(x y:SV)(K:PK):Prop :=
 match x,y with
 | .c (.v (.int .i64 a)), .c (.v (.int .i64 b))=>K (iv .i64 (max a b)) []
 | .c (.v (.int .u64 a)), .c (.v (.int .u64 b))=>K (iv .u64 (max a b)) []
 |_,_=>False
def biK(B:Tabs)(e:Env)(b:Builtin)(args:List Operand)(ts:List TypeId)(K:PK):Prop :=
 match b,args,ts with
 | .len,[x],[t]=>cB4 B (ev e x) t K
 | .min,[x,y],_=>cB5 (ev e x) (ev e y) K
 | .max,[x,y],_=>cB6 (ev e x) (ev e y) K
 |_,_,_=>False
theorem cH0{P:Program}{B:Tabs}(hB:TabsOK P B){o:Oper}{e:Env}{H:Je}{b:Builtin}{c:Call}{K:PK}(ho:o.op=.call c)(hc:c.callee=.builtin b)
 (h:biK B e b c.args.toList c.argTypes.toList K):∃sv rd,K sv rd∧PureOK P o e H sv rd:=by
 have hops:∀x∈c.args.toList,x∈o.op.operands.toList:=fun x hx=>by simp[ho,Op.operands,Call.operands,hc];simpa using hx
 have run:=Vr (P:=P) ho hc;unfold biK at h;split at h
 ·rename_i x t hargs hts
  have ha:c.args=#[x]:=by rw[←Array.toList_inj,hargs]
  have ht:c.argTypes=#[t]:=by rw[←Array.toList_inj,hts]
  have hx:x∈o.op.operands.toList:=hops x (by simp[ha]);unfold cB4 at h;split at h
  ·rename_i k st len sz el s0 b0 z0 he hl
   refine⟨_,_,h,Xp (fun n=>YJ n _ _) fun ρ a w hr=>⟨_, ?_,rfl⟩⟩;have h1:=Jg hx hr;rw[he]at h1;simp only[SV.rel,SC.rel]at h1;obtain⟨ad,hv,_⟩:=h1;obtain⟨ds,hds,hks⟩:=Qq hB.T hl w;have e1:=aa6 hks;subst e1;rw[run];simp[builtin,ha,ht,Builtin.len_,hv,hds,goInt]
  ·rename_i ad n cp el s0 b0 z0 he hl
   refine⟨_,_,h,Xp (fun n=>YJ n _ _) fun ρ a w hr=>⟨_, ?_,rfl⟩⟩;have h1:=Jg hx hr;rw[he]at h1;simp only[SV.rel,SC.rel]at h1;obtain⟨ds,hds,hks⟩:=Qq hB.T hl w;have e1:=aa6 hks;subst e1;rw[run];simp[builtin,ha,ht,Builtin.len_,h1,hds,goInt]
  ·rename_i s s0 b0 z0 he hl
   refine⟨_,_,h,Xp (fun n=>YJ n _ _) fun ρ a w hr=>⟨_, ?_,rfl⟩⟩;have h1:=Jg hx hr;rw[he]at h1;simp only[SV.rel,SC.rel]at h1;obtain⟨ds,hds,hks⟩:=Qq hB.T hl w;have e1:ds=.string:=by cases ds <;> simp[VM]at hks;rfl
   subst e1;rw[run];simp[builtin,ha,ht,Builtin.len_,h1,hds,goInt]
  ·exact h.elim
 ·rename_i x y hargs
  have ha:c.args=#[x,y]:=by rw[←Array.toList_inj,hargs]
  have hx:x∈o.op.operands.toList:=hops x (by simp[ha]);have hy:y∈o.op.operands.toList:=hops y (by simp[ha]);unfold cB5 at h;split at h
  ·rename_i p q he1 he2
   refine⟨_,_,h,Xp (fun n=>YJ n _ _) fun ρ a w hr=>⟨_, ?_,rfl⟩⟩;have h1:=Jg hx hr;rw[he1]at h1;simp only[SV.rel,SC.rel]at h1;have h2:=Jg hy hr;rw[he2]at h2;simp only[SV.rel,SC.rel]at h2;rw[run];have:(if q<p then q else p)=min p q:=by rw[Int.min_def];split <;> split <;> omega
   simp[builtin,ha,Builtin.min_,Builtin.min2,h1,h2,this]
  ·exact h.elim
 ·rename_i x y hargs
  have ha:c.args=#[x,y]:=by rw[←Array.toList_inj,hargs]
  have hx:x∈o.op.operands.toList:=hops x (by simp[ha]);have hy:y∈o.op.operands.toList:=hops y (by simp[ha]);unfold cB6 at h;split at h
  ·rename_i p q he1 he2
   refine⟨_,_,h,Xp (fun n=>YJ n _ _) fun ρ a w hr=>⟨_, ?_,rfl⟩⟩;have h1:=Jg hx hr;rw[he1]at h1;simp only[SV.rel,SC.rel]at h1;have h2:=Jg hy hr;rw[he2]at h2;simp only[SV.rel,SC.rel]at h2;rw[run];have:(if p<q then q else p)=max p q:=by rw[Int.max_def];split <;> split <;> omega
   simp[builtin,ha,Builtin.max_,Builtin.max2,h1,h2,this]
  ·rename_i p q he1 he2
   refine⟨_,_,h,Xp (fun n=>YJ n _ _) fun ρ a w hr=>⟨_, ?_,rfl⟩⟩;have h1:=Jg hx hr;rw[he1]at h1;simp only[SV.rel,SC.rel]at h1;have h2:=Jg hy hr;rw[he2]at h2;simp only[SV.rel,SC.rel]at h2;rw[run];have:(if p<q then q else p)=max p q:=by rw[Int.max_def];split <;> split <;> omega
   simp[builtin,ha,Builtin.max_,Builtin.max2,h1,h2,this]
  ·exact h.elim
 ·exact h.elim
def JV(h:Nat):Nat→Nat
 |0=>h
 |l+1=>h-(l+1)
theorem Jt(h l:Nat):JV h l=h-l:=by cases l <;> simp[JV]
def al3(e:Env)(x:Option Operand)(dflt:Nat)(K:Nat→Prop):Prop :=
 match x with
 |none=>K dflt
 |some x=>match ev e x with
  | .c (.v (.int _ n))=>∃j:Nat,n=(j:Int)∧K j
  |_=>False
def slK(B:Tabs)(e:Env)(t:TypeId)(x:SV)(lo hi:Option Operand)(K:PK):Prop :=
 match x,Ji B.T t with
 | .c (.s k st len sz),some ⟨.slice el,_,_,_⟩=>match Ji B.T el with
  |some ti=>bif Nat.beq ti.size sz then
   al3 e hi len fun h=>h≤len∧al3 e lo 0 fun l=>l≤h∧K (.c (.s k (JO st l) (JV h l) sz)) []
   else False
  |none=>False
 | .c (.v (.slice none 0 0)),some ⟨.slice el,_,_,_⟩=>match Ji B.T el with
  |some _=>al3 e hi 0 fun h=>h≤0∧al3 e lo 0 fun l=>l≤h∧K (.c (.v (.slice none 0 0))) []
  |none=>False
 |_,_=>False
theorem UJ{P:Program}{e:Env}{x:Option Operand}{d lim:Nat}{K:Nat→Prop}{o:Oper}(hmem:∀y,x=some y→y∈o.op.operands.toList)(h:al3 e x d K) :
 ∃j,K j∧(x=none→j=d)∧∀(y:Operand),x=some y→∀(ρ:Jn) (a:Act),(∀t,Wr o t→(e.get t).rel ρ (a.tmps.getD t undef))→∃k,a.eval y=.int k (j:Int):=by
 unfold al3 at h;split at h
 ·exact⟨d,h,(fun _=>rfl),(fun y hy=>by cases hy)⟩
 ·rename_i x'
  split at h
  ·rename_i k n he
   obtain⟨j,rfl,hK⟩:=h;refine⟨j,hK,(fun hx=>by cases hx),fun y hy ρ a hr=>⟨k, ?_⟩⟩;cases hy;have h1:=Jg (hmem _ rfl) hr;rw[he]at h1;exact h1
  ·exact h.elim
theorem cH1{P:Program}{B:Tabs}(hB:TabsOK P B){o:Oper}{e:Env}{H:Je}{t:TypeId}{x:Operand}{lo hi:Option Operand}{K:PK}(ho:o.op=.slice t x lo hi none)
 (h:slK B e t (ev e x) lo hi K):∃sv rd,K sv rd∧PureOK P o e H sv rd:=by
 have hx:x∈o.op.operands.toList:=by simp[ho,Op.operands]
 have hlo:∀y,lo=some y→y∈o.op.operands.toList:=fun y hy=>by simp[ho,Op.operands,hy]
 have hhi:∀y,hi=some y→y∈o.op.operands.toList:=fun y hy=>by simp[ho,Op.operands,hy]
 unfold slK at h;split at h
 ·rename_i k st len sz el s0 b0 z0 he hl
  split at h
  ·rename_i ti hti
   cases hz:Nat.beq ti.size sz with
   |false=>simp[hz]at h
   |true =>
    simp only[hz,cond_true]at h;obtain⟨hv,⟨hle,h⟩,hd,hy⟩:=UJ (P:=P) (lim:=0) hhi h;obtain⟨lv,⟨hll,hK⟩,ld,ly⟩:=UJ (P:=P) (lim:=0) hlo h;refine⟨_,_,hK, ?_, ?_⟩
    ·intro n hn _;have:=Qy hx hn;rw[he]at this;rw[SV.below_c]at this ⊢;exact this
    ·intro ρ a w hr _;have h1:=Jg hx hr;rw[he]at h1;simp only[SV.rel,SC.rel]at h1;obtain⟨ad,hval,hcap,had⟩:=h1;obtain⟨ds,hds,hks⟩:=Qq hB.T hl w;have e1:=aa6 hks;subst e1;have hsz:=QY hB hti w;have hz':=Nat.eq_of_beq_eq_true hz;have hb:(Instr.sliceBounds true len ((ρ k).cap-st) (lo.map a.eval) (hi.map a.eval) none).run P w=.ok (lv,hv,(ρ k).cap-st) w:=by
      cases hi with
      |none =>
       have:=hd rfl;subst this;cases lo with
       |none=>have:=ld rfl;subst this;simp[Instr.sliceBounds]
       |some y =>
        obtain⟨ky,hky⟩:=ly y rfl ρ a hr;simp[Instr.sliceBounds,Instr.sliceBound,hky,asIntOf,hll]
      |some z =>
       obtain⟨kz,hkz⟩:=hy z rfl ρ a hr;have h3:hv≤(ρ k).cap-st:=by omega
       cases lo with
       |none=>have:=ld rfl;subst this;simp[Instr.sliceBounds,Instr.sliceBound,hkz,asIntOf,h3]
       |some y =>
        obtain⟨ky,hky⟩:=ly y rfl ρ a hr;simp[Instr.sliceBounds,Instr.sliceBound,hky,hkz,asIntOf,hll,h3]
     refine⟨.slice (if(ρ k).cap-st=lv then ad else ad.map (·.add (lv*sz))) (hv-lv) ((ρ k).cap-st-lv), ?_, ?_⟩
     ·simp[execOp,ho,hval,Instr.sliceAt,hds,Instr.slice,hb,hsz,hz']
     ·simp only[SV.rel,SC.rel,Qc,Jt];refine⟨_,by rw[Nat.sub_sub],by omega,fun hlt=>?_⟩;rw[if_neg (by omega),had (by omega)];simp[VV,Nat.add_mul]
  ·exact h.elim
 ·rename_i el s0 b0 z0 he hl
  split at h
  ·rename_i ti hti
   obtain⟨hv,⟨hle,h⟩,hd,hy⟩:=UJ (P:=P) (lim:=0) hhi h;obtain⟨lv,⟨hll,hK⟩,ld,ly⟩:=UJ (P:=P) (lim:=0) hlo h;have hv0:hv=0:=by omega
   have lv0:lv=0:=by omega
   refine⟨_,_,hK,fun n _ _=>VX n _, ?_⟩;intro ρ a w hr _;have h1:=Jg hx hr;rw[he]at h1;simp only[SV.rel,SC.rel]at h1;obtain⟨ds,hds,hks⟩:=Qq hB.T hl w;have e1:=aa6 hks;subst e1;have hsz:=QY hB hti w;have hb:(Instr.sliceBounds true 0 0 (lo.map a.eval) (hi.map a.eval) none).run P w=.ok (0,0,0) w:=by
    cases hi with
    |none =>
     cases lo with
     |none=>simp[Instr.sliceBounds]
     |some y =>
      obtain⟨ky,hky⟩:=ly y rfl ρ a hr;subst lv0;simp[Instr.sliceBounds,Instr.sliceBound,hky,asIntOf]
    |some z =>
     obtain⟨kz,hkz⟩:=hy z rfl ρ a hr;subst hv0;cases lo with
     |none=>simp[Instr.sliceBounds,Instr.sliceBound,hkz,asIntOf]
     |some y =>
      obtain⟨ky,hky⟩:=ly y rfl ρ a hr;subst lv0;simp[Instr.sliceBounds,Instr.sliceBound,hky,hkz,asIntOf]
   refine⟨.slice none 0 0, ?_,rfl⟩;simp[execOp,ho,h1,Instr.sliceAt,hds,Instr.slice,hb,hsz]
  ·exact h.elim
 ·exact h.elim
end Sx
end Go
