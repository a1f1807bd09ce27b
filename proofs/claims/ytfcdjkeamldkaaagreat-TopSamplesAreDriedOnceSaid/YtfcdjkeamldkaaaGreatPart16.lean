/-
  A part of the proof that a law answers true: lemmas of a symbolic walk, plain functions, or contracts of the functions walked (E3, E4, Sx76). Conditions: none.
-/
import Derived.Test.YtfcdjkeamldkaaaGreatPart15
set_option maxRecDepth 100000
set_option linter.unusedVariables false
set_option linter.unusedSimpArgs false
namespace Go.Proofs
open Go.Sx
structure Slp where
 id:Int
 kind:Int
 st:Int
 k:Ky
 num:Int
 mass:Int
abbrev aw4(s:Slp):List SC:=[.v (.int .i64 s.id), .v (.int .i64 s.kind), .v (.int .i64 s.st), .v (.int .i64 s.k.1), .v (.int .i64 s.k.2), .v (.int .i64 s.num), .v (.int .i64 s.mass)]
abbrev Wc(s:Slp):SV:=.agg (aw4 s)
def VS:Slp:=⟨0,0,0,(0,0),0,0⟩
def Xw(xs:List Slp):Arr:=⟨Slp,7,aw4,[],fun _=>rfl,(by intro x c hc k hk;simp at hc;rcases hc with rfl|rfl|rfl|rfl|rfl|rfl|rfl <;> cases hk),xs,none,none⟩
structure Ans where
 kind:Int
 num:Int
 h:Hd
 d:Dsk
def Jl(d:Dsk)(s:Slp)(h:Hd):Ans :=
 if s.kind=1∧h.state=1 then⟨2,d.last+1,⟨2,s.st,d.last+1,d.time+d.lease,0⟩,{ d with last:=d.last+1 }⟩
 else if s.kind=1∧h.station=s.st∧h.state=2 then⟨2,h.number,h,d⟩
 else if s.kind=1∧h.station=s.st∧h.state=3 then⟨5,h.number,h,d⟩
 else if s.kind=4∧(h.station=s.st∧h.number=s.num)∧h.state=3 then⟨5,h.number,h,d⟩
 else if s.kind=1∧h.station=s.st∧h.state=4 then⟨8,h.number,h,d⟩
 else if s.kind=7∧(h.station=s.st∧h.number=s.num)∧h.state=4 then⟨8,h.number,h,d⟩
 else if s.kind=4∧(h.station=s.st∧h.number=s.num)∧h.state=2 then⟨5,h.number,⟨3,h.station,h.number,0,0⟩,d⟩
 else if s.kind=6∧(h.station=s.st∧h.number=s.num)∧h.state=2 then⟨8,h.number,⟨1,0,0,0,0⟩,d⟩
 else if s.kind=7∧(h.station=s.st∧h.number=s.num)∧h.state=3∧Jf s.mass 0 10000000=true then⟨8,h.number,⟨4,h.station,h.number,0,s.mass⟩,d⟩
 else⟨3,s.num,h,d⟩
theorem YI{a b:Int}(h:a=b):(a==b)=true:=by rw[h];simp
theorem JG{a b:Int}(h:¬a=b):(a==b)=false:=by simpa using h
theorem bV8(d:Dsk)(hl:-1000000000≤d.last∧d.last≤1000000000)(hti:-1000000000≤d.time∧d.time≤1000000000)(hle:-1000000000≤d.lease∧d.lease≤1000000000)(s:Slp)(h:Hd)(m:¬h.station=s.st)(k1:s.kind=1) :
 Triple Tryz.prog 180 [.c (.p 0 0 0 0),Wc s, .agg (UE h)] (Wa d) 2 (.tup [.inl (.v (.int .i64 (Jl d s h).kind)), .inl (.v (.int .i64 (Jl d s h).num)), .inr (UE (Jl d s h).h)]) (Wa (Jl d s h).d):=by
 have em:=JG m;have a1:=YI k1;have b1:=JG (a:=s.kind) (b:=4) (by omega);have b2:=JG (a:=s.kind) (b:=6) (by omega);have b3:=JG (a:=s.kind) (b:=7) (by omega);by_cases s1:h.state=1
 ·have c1:=YI s1;have hm:=JA s.mass 0 10000000;generalize hR:Jl d s h=R;refine Jc Ja Tryz.func180 rfl Tryz.call180 rfl ?_;intro ρ w hH;conv=>whnf
  simp[Jl,m,k1,s1]at hR;subst hR;repeat ((first|refine qT fun hc=>?_|refine qF fun hc=>?_);conv=>whnf)
  refine⟨d.last+1,wO, ?_⟩;conv=>whnf
  refine⟨d.time+d.lease,wO, ?_⟩;conv=>whnf
  exact cl
 have c1:=JG s1;have hm:=JA s.mass 0 10000000;generalize hR:Jl d s h=R;refine Jc Ja Tryz.func180 rfl Tryz.call180 rfl ?_;intro ρ w hH;conv=>whnf
 simp[Jl,m,k1,s1]at hR;subst hR;repeat ((first|refine qT fun hc=>?_|refine qF fun hc=>?_);conv=>whnf)
 skip;exact cl
theorem bV9(d:Dsk)(hl:-1000000000≤d.last∧d.last≤1000000000)(hti:-1000000000≤d.time∧d.time≤1000000000)(hle:-1000000000≤d.lease∧d.lease≤1000000000)(s:Slp)(h:Hd)(m:¬h.station=s.st)(k1:¬s.kind=1) :
 Triple Tryz.prog 180 [.c (.p 0 0 0 0),Wc s, .agg (UE h)] (Wa d) 2 (.tup [.inl (.v (.int .i64 (Jl d s h).kind)), .inl (.v (.int .i64 (Jl d s h).num)), .inr (UE (Jl d s h).h)]) (Wa (Jl d s h).d):=by
 have em:=JG m;have hm:=JA s.mass 0 10000000;generalize hR:Jl d s h=R;refine Jc Ja Tryz.func180 rfl Tryz.call180 rfl ?_;intro ρ w hH;conv=>whnf
 by_cases k4:s.kind=4
 ·skip;have a1:=YI k4;have b1:=JG (a:=s.kind) (b:=1) (by omega);have b2:=JG (a:=s.kind) (b:=6) (by omega);have b3:=JG (a:=s.kind) (b:=7) (by omega);simp[Jl,m,k4]at hR;subst hR;repeat ((first|refine qT fun hc=>?_|refine qF fun hc=>?_);conv=>whnf)
  skip;exact cl
 by_cases k7:s.kind=7
 ·skip;have a1:=YI k7;have b1:=JG (a:=s.kind) (b:=1) (by omega);have b2:=JG (a:=s.kind) (b:=4) (by omega);have b3:=JG (a:=s.kind) (b:=6) (by omega);simp[Jl,m,k7]at hR;subst hR;repeat ((first|refine qT fun hc=>?_|refine qF fun hc=>?_);conv=>whnf)
  skip;exact cl
 by_cases k6:s.kind=6
 ·skip;have a1:=YI k6;have b1:=JG (a:=s.kind) (b:=1) (by omega);have b2:=JG (a:=s.kind) (b:=4) (by omega);have b3:=JG (a:=s.kind) (b:=7) (by omega);simp[Jl,m,k6]at hR;subst hR;repeat ((first|refine qT fun hc=>?_|refine qF fun hc=>?_);conv=>whnf)
  skip;exact cl
 have b1:=JG k1;have b2:=JG k4;have b3:=JG k7;have b4:=JG k6;simp[Jl,m,k1,k4,k7,k6]at hR;subst hR;repeat ((first|refine qT fun hc=>?_|refine qF fun hc=>?_);conv=>whnf)
 skip;exact cl
theorem bW0(d:Dsk)(hl:-1000000000≤d.last∧d.last≤1000000000)(hti:-1000000000≤d.time∧d.time≤1000000000)(hle:-1000000000≤d.lease∧d.lease≤1000000000)(s:Slp)(h:Hd)(m:h.station=s.st)(n:¬h.number=s.num)(k1:s.kind=1) :
 Triple Tryz.prog 180 [.c (.p 0 0 0 0),Wc s, .agg (UE h)] (Wa d) 2 (.tup [.inl (.v (.int .i64 (Jl d s h).kind)), .inl (.v (.int .i64 (Jl d s h).num)), .inr (UE (Jl d s h).h)]) (Wa (Jl d s h).d):=by
 have em:=YI m;have en:=JG n;have hm:=JA s.mass 0 10000000;generalize hR:Jl d s h=R;refine Jc Ja Tryz.func180 rfl Tryz.call180 rfl ?_;intro ρ w hH;conv=>whnf
 have a1:=YI k1;have b1:=JG (a:=s.kind) (b:=4) (by omega);have b2:=JG (a:=s.kind) (b:=6) (by omega);have b3:=JG (a:=s.kind) (b:=7) (by omega);by_cases s1:h.state=1
 ·have c1:=YI s1;simp[Jl,m,n,k1,s1]at hR;subst hR;repeat ((first|refine qT fun hc=>?_|refine qF fun hc=>?_);conv=>whnf)
  refine⟨d.last+1,wO, ?_⟩;conv=>whnf
  refine⟨d.time+d.lease,wO, ?_⟩;conv=>whnf
  exact cl
 have c1:=JG s1;by_cases s2:h.state=2
 ·have c2:=YI s2;simp[Jl,m,n,k1,s2]at hR;subst hR;repeat ((first|refine qT fun hc=>?_|refine qF fun hc=>?_);conv=>whnf)
  skip;exact cl
 have c2:=JG s2;by_cases s3:h.state=3
 ·have c3:=YI s3;simp[Jl,m,n,k1,s3]at hR;subst hR;repeat ((first|refine qT fun hc=>?_|refine qF fun hc=>?_);conv=>whnf)
  skip;exact cl
 have c3:=JG s3;by_cases s4:h.state=4
 ·have c4:=YI s4;simp[Jl,m,n,k1,s4]at hR;subst hR;repeat ((first|refine qT fun hc=>?_|refine qF fun hc=>?_);conv=>whnf)
  skip;exact cl
 have c4:=JG s4;simp[Jl,m,n,k1,s1,s2,s3,s4]at hR;subst hR;repeat ((first|refine qT fun hc=>?_|refine qF fun hc=>?_);conv=>whnf)
 skip;exact cl
theorem bW1(d:Dsk)(hl:-1000000000≤d.last∧d.last≤1000000000)(hti:-1000000000≤d.time∧d.time≤1000000000)(hle:-1000000000≤d.lease∧d.lease≤1000000000)(s:Slp)(h:Hd)(m:h.station=s.st)(n:¬h.number=s.num)(k1:¬s.kind=1) :
 Triple Tryz.prog 180 [.c (.p 0 0 0 0),Wc s, .agg (UE h)] (Wa d) 2 (.tup [.inl (.v (.int .i64 (Jl d s h).kind)), .inl (.v (.int .i64 (Jl d s h).num)), .inr (UE (Jl d s h).h)]) (Wa (Jl d s h).d):=by
 have em:=YI m;have en:=JG n;have hm:=JA s.mass 0 10000000;generalize hR:Jl d s h=R;refine Jc Ja Tryz.func180 rfl Tryz.call180 rfl ?_;intro ρ w hH;conv=>whnf
 by_cases k4:s.kind=4
 ·skip;have a1:=YI k4;have b1:=JG (a:=s.kind) (b:=1) (by omega);have b2:=JG (a:=s.kind) (b:=6) (by omega);have b3:=JG (a:=s.kind) (b:=7) (by omega);simp[Jl,m,n,k4]at hR;subst hR;repeat ((first|refine qT fun hc=>?_|refine qF fun hc=>?_);conv=>whnf)
  skip;exact cl
 by_cases k7:s.kind=7
 ·skip;have a1:=YI k7;have b1:=JG (a:=s.kind) (b:=1) (by omega);have b2:=JG (a:=s.kind) (b:=4) (by omega);have b3:=JG (a:=s.kind) (b:=6) (by omega);simp[Jl,m,n,k7]at hR;subst hR;repeat ((first|refine qT fun hc=>?_|refine qF fun hc=>?_);conv=>whnf)
  skip;exact cl
 by_cases k6:s.kind=6
 ·skip;have a1:=YI k6;have b1:=JG (a:=s.kind) (b:=1) (by omega);have b2:=JG (a:=s.kind) (b:=4) (by omega);have b3:=JG (a:=s.kind) (b:=7) (by omega);simp[Jl,m,n,k6]at hR;subst hR;repeat ((first|refine qT fun hc=>?_|refine qF fun hc=>?_);conv=>whnf)
  skip;exact cl
 have b1:=JG k1;have b2:=JG k4;have b3:=JG k7;have b4:=JG k6;simp[Jl,m,n,k1,k4,k7,k6]at hR;subst hR;repeat ((first|refine qT fun hc=>?_|refine qF fun hc=>?_);conv=>whnf)
 skip;exact cl
theorem bW2(d:Dsk)(hl:-1000000000≤d.last∧d.last≤1000000000)(hti:-1000000000≤d.time∧d.time≤1000000000)(hle:-1000000000≤d.lease∧d.lease≤1000000000)(s:Slp)(h:Hd)(m:h.station=s.st)(n:h.number=s.num)(k1:s.kind=1) :
 Triple Tryz.prog 180 [.c (.p 0 0 0 0),Wc s, .agg (UE h)] (Wa d) 2 (.tup [.inl (.v (.int .i64 (Jl d s h).kind)), .inl (.v (.int .i64 (Jl d s h).num)), .inr (UE (Jl d s h).h)]) (Wa (Jl d s h).d):=by
 have em:=YI m;have en:=YI n;have hm:=JA s.mass 0 10000000;generalize hR:Jl d s h=R;refine Jc Ja Tryz.func180 rfl Tryz.call180 rfl ?_;intro ρ w hH;conv=>whnf
 have a1:=YI k1;have b1:=JG (a:=s.kind) (b:=4) (by omega);have b2:=JG (a:=s.kind) (b:=6) (by omega);have b3:=JG (a:=s.kind) (b:=7) (by omega);by_cases s1:h.state=1
 ·have c1:=YI s1;simp[Jl,m,n,k1,s1]at hR;subst hR;repeat ((first|refine qT fun hc=>?_|refine qF fun hc=>?_);conv=>whnf)
  refine⟨d.last+1,wO, ?_⟩;conv=>whnf
  refine⟨d.time+d.lease,wO, ?_⟩;conv=>whnf
  exact cl
 have c1:=JG s1;by_cases s2:h.state=2
 ·have c2:=YI s2;simp[Jl,m,n,k1,s2]at hR;subst hR;repeat ((first|refine qT fun hc=>?_|refine qF fun hc=>?_);conv=>whnf)
  skip;exact cl
 have c2:=JG s2;by_cases s3:h.state=3
 ·have c3:=YI s3;simp[Jl,m,n,k1,s3]at hR;subst hR;repeat ((first|refine qT fun hc=>?_|refine qF fun hc=>?_);conv=>whnf)
  skip;exact cl
 have c3:=JG s3;by_cases s4:h.state=4
 ·have c4:=YI s4;simp[Jl,m,n,k1,s4]at hR;subst hR;repeat ((first|refine qT fun hc=>?_|refine qF fun hc=>?_);conv=>whnf)
  skip;exact cl
 have c4:=JG s4;simp[Jl,m,n,k1,s1,s2,s3,s4]at hR;subst hR;repeat ((first|refine qT fun hc=>?_|refine qF fun hc=>?_);conv=>whnf)
 skip;exact cl
theorem bW3(d:Dsk)(hl:-1000000000≤d.last∧d.last≤1000000000)(hti:-1000000000≤d.time∧d.time≤1000000000)(hle:-1000000000≤d.lease∧d.lease≤1000000000)(s:Slp)(h:Hd)(m:h.station=s.st)(n:h.number=s.num)(k4:s.kind=4) :
 Triple Tryz.prog 180 [.c (.p 0 0 0 0),Wc s, .agg (UE h)] (Wa d) 2 (.tup [.inl (.v (.int .i64 (Jl d s h).kind)), .inl (.v (.int .i64 (Jl d s h).num)), .inr (UE (Jl d s h).h)]) (Wa (Jl d s h).d):=by
 have em:=YI m;have en:=YI n;have a1:=YI k4;have b1:=JG (a:=s.kind) (b:=1) (by omega);have b2:=JG (a:=s.kind) (b:=6) (by omega);have b3:=JG (a:=s.kind) (b:=7) (by omega);have hm:=JA s.mass 0 10000000;generalize hR:Jl d s h=R;refine Jc Ja Tryz.func180 rfl Tryz.call180 rfl ?_;intro ρ w hH;conv=>whnf
 by_cases s3:h.state=3
 ·have c3:=YI s3;simp[Jl,m,n,k4,s3]at hR;subst hR;repeat ((first|refine qT fun hc=>?_|refine qF fun hc=>?_);conv=>whnf)
  skip;exact cl
 have c3:=JG s3;by_cases s2:h.state=2
 ·have c2:=YI s2;simp[Jl,m,n,k4,s2]at hR;subst hR;repeat ((first|refine qT fun hc=>?_|refine qF fun hc=>?_);conv=>whnf)
  skip;exact cl
 have c2:=JG s2;simp[Jl,m,n,k4,s2,s3]at hR;subst hR;repeat ((first|refine qT fun hc=>?_|refine qF fun hc=>?_);conv=>whnf)
 skip;exact cl
theorem bW4(d:Dsk)(hl:-1000000000≤d.last∧d.last≤1000000000)(hti:-1000000000≤d.time∧d.time≤1000000000)(hle:-1000000000≤d.lease∧d.lease≤1000000000)(s:Slp)(h:Hd)(m:h.station=s.st)(n:h.number=s.num)(k7:s.kind=7) :
 Triple Tryz.prog 180 [.c (.p 0 0 0 0),Wc s, .agg (UE h)] (Wa d) 2 (.tup [.inl (.v (.int .i64 (Jl d s h).kind)), .inl (.v (.int .i64 (Jl d s h).num)), .inr (UE (Jl d s h).h)]) (Wa (Jl d s h).d):=by
 have em:=YI m;have en:=YI n;have a1:=YI k7;have b1:=JG (a:=s.kind) (b:=1) (by omega);have b2:=JG (a:=s.kind) (b:=4) (by omega);have b3:=JG (a:=s.kind) (b:=6) (by omega);have hm:=JA s.mass 0 10000000;generalize hR:Jl d s h=R;refine Jc Ja Tryz.func180 rfl Tryz.call180 rfl ?_;intro ρ w hH;conv=>whnf
 by_cases s4:h.state=4
 ·have c4:=YI s4;simp[Jl,m,n,k7,s4]at hR;subst hR;repeat ((first|refine qT fun hc=>?_|refine qF fun hc=>?_);conv=>whnf)
  skip;exact cl
 have c4:=JG s4;by_cases s3:h.state=3
 ·have c3:=YI s3;cases hw:Jf s.mass 0 10000000 with
  |true =>
   simp[Jl,m,n,k7,s3,hw]at hR;subst hR;rw[hw]at hm;repeat ((first|refine qT fun hc=>?_|refine qF fun hc=>?_);conv=>whnf)
   refine Jb hm rfl rfl ?_;conv=>whnf
   refine cs ?_;conv=>whnf
   repeat ((first|refine qT fun hc=>?_|refine qF fun hc=>?_);conv=>whnf)
   exact cl
  |false =>
   simp[Jl,m,n,k7,s3,hw]at hR;subst hR;rw[hw]at hm;repeat ((first|refine qT fun hc=>?_|refine qF fun hc=>?_);conv=>whnf)
   refine Jb hm rfl rfl ?_;conv=>whnf
   refine cs ?_;conv=>whnf
   repeat ((first|refine qT fun hc=>?_|refine qF fun hc=>?_);conv=>whnf)
   exact cl
 have c3:=JG s3;simp[Jl,m,n,k7,s4,s3]at hR;subst hR;repeat ((first|refine qT fun hc=>?_|refine qF fun hc=>?_);conv=>whnf)
 skip;exact cl
theorem bW5(d:Dsk)(hl:-1000000000≤d.last∧d.last≤1000000000)(hti:-1000000000≤d.time∧d.time≤1000000000)(hle:-1000000000≤d.lease∧d.lease≤1000000000)(s:Slp)(h:Hd)(m:h.station=s.st)(n:h.number=s.num)(k1:¬s.kind=1)(k4:¬s.kind=4)(k7:¬s.kind=7) :
 Triple Tryz.prog 180 [.c (.p 0 0 0 0),Wc s, .agg (UE h)] (Wa d) 2 (.tup [.inl (.v (.int .i64 (Jl d s h).kind)), .inl (.v (.int .i64 (Jl d s h).num)), .inr (UE (Jl d s h).h)]) (Wa (Jl d s h).d):=by
 have em:=YI m;have en:=YI n;have b1:=JG k1;have b2:=JG k4;have b3:=JG k7;have hm:=JA s.mass 0 10000000;generalize hR:Jl d s h=R;refine Jc Ja Tryz.func180 rfl Tryz.call180 rfl ?_;intro ρ w hH;conv=>whnf
 by_cases k6:s.kind=6
 ·have a6:=YI k6;by_cases s2:h.state=2
  ·have c2:=YI s2;simp[Jl,m,n,k6,s2]at hR;subst hR;repeat ((first|refine qT fun hc=>?_|refine qF fun hc=>?_);conv=>whnf)
   skip;exact cl
  have c2:=JG s2;simp[Jl,m,n,k6,s2]at hR;subst hR;repeat ((first|refine qT fun hc=>?_|refine qF fun hc=>?_);conv=>whnf)
  skip;exact cl
 have b6:=JG k6;simp[Jl,m,n,k1,k4,k7,k6]at hR;subst hR;repeat ((first|refine qT fun hc=>?_|refine qF fun hc=>?_);conv=>whnf)
 skip;exact cl
theorem aE3(d:Dsk)(hl:-1000000000≤d.last∧d.last≤1000000000)(hti:-1000000000≤d.time∧d.time≤1000000000)(hle:-1000000000≤d.lease∧d.lease≤1000000000)(s:Slp)(h:Hd) :
 Triple Tryz.prog 180 [.c (.p 0 0 0 0),Wc s, .agg (UE h)] (Wa d) 2 (.tup [.inl (.v (.int .i64 (Jl d s h).kind)), .inl (.v (.int .i64 (Jl d s h).num)), .inr (UE (Jl d s h).h)]) (Wa (Jl d s h).d):=by
 by_cases m:h.station=s.st
 ·by_cases n:h.number=s.num
  ·by_cases k1:s.kind=1
   ·exact bW2 d hl hti hle s h m n k1
   by_cases k4:s.kind=4
   ·exact bW3 d hl hti hle s h m n k4
   by_cases k7:s.kind=7
   ·exact bW4 d hl hti hle s h m n k7
   exact bW5 d hl hti hle s h m n k1 k4 k7
  ·by_cases k1:s.kind=1
   ·exact bW0 d hl hti hle s h m n k1
   ·exact bW1 d hl hti hle s h m n k1
 ·by_cases k1:s.kind=1
  ·exact bV8 d hl hti hle s h m k1
  ·exact bV9 d hl hti hle s h m k1
def ae0(k:Int):Bool:=k==1||(k==4||(k==6||k==7))
def Yg(d:Dsk)(now:Int)(s:Slp):(Slp×Bool)×Dsk :=
 if ae0 s.kind=true∧d.has s.k=true∧Jf s.st 1 6=true then
  ((⟨0,(Jl (YK d now) s (YZ d now s.k)).kind,s.st,s.k,(Jl (YK d now) s (YZ d now s.k)).num,0⟩,true),upD (Jl (YK d now) s (YZ d now s.k)).d s.k (Jl (YK d now) s (YZ d now s.k)).h)
 else((VS,false),YK d now)
structure DskB (d:Dsk):Prop where
 last:0≤d.last∧d.last≤1000000
 time:0≤d.time∧d.time≤1000000
 lease:1≤d.lease∧d.lease≤1000
 vals:Yk 5 d.known
theorem DskB.at_{d:Dsk}(h:DskB d)(now:Int):DskB (YK d now):=by
 have ht:=h.time;exact⟨h.last,(by show 0≤max d.time (min now 1000000)∧max d.time (min now 1000000)≤1000000;omega),h.lease,h.vals⟩
theorem ba5(d:Dsk)(hd:DskB d)(now:Int)(s:Slp) :
 Triple Tryz.prog 155 [.c (.p 0 0 0 0),iv .i64 now,Wc s] (Wa d) 2 (.tup [.inr (aw4 (Yg d now s).1.1), .inl (.v (.bool (Yg d now s).1.2))]) (Wa (Yg d now s).2):=by
 have hat:=bL6 d hd.vals now s.k;have hw:=JA s.st 1 6;by_cases k1:s.kind=1
 ·have a1:=YI k1;cases hh:d.has s.k with
  |false =>
   rw[show Yg d now s=((VS,false),YK d now)from by unfold Yg;rw[if_neg (by simp[hh])]];rw[hh]at hat;refine Jc Ja Tryz.func155 rfl Tryz.call155 rfl ?_;intro ρ w hH;conv=>whnf
   refine Jb hat rfl rfl ?_;conv=>whnf
   refine cs ?_;conv=>whnf
   repeat ((first|refine qT fun hc=>?_|refine qF fun hc=>?_);conv=>whnf)
   exact cl
  |true =>
   rw[hh]at hat;cases hs:Jf s.st 1 6 with
   |false =>
    rw[show Yg d now s=((VS,false),YK d now)from by unfold Yg;rw[if_neg (by simp[hs])]];rw[hs]at hw;refine Jc Ja Tryz.func155 rfl Tryz.call155 rfl ?_;intro ρ w hH;conv=>whnf
    refine Jb hat rfl rfl ?_;conv=>whnf
    refine cs ?_;conv=>whnf
    repeat ((first|refine qT fun hc=>?_|refine qF fun hc=>?_);conv=>whnf)
    refine Jb hw rfl rfl ?_;conv=>whnf
    refine cs ?_;conv=>whnf
    repeat ((first|refine qT fun hc=>?_|refine qF fun hc=>?_);conv=>whnf)
    exact cl
   |true =>
    have hF:Yg d now s=((⟨0,(Jl (YK d now) s (YZ d now s.k)).kind,s.st,s.k,(Jl (YK d now) s (YZ d now s.k)).num,0⟩,true),upD (Jl (YK d now) s (YZ d now s.k)).d s.k (Jl (YK d now) s (YZ d now s.k)).h):=by
     unfold Yg;rw[if_pos ⟨by simp[ae0,k1],hh,hs⟩]
    rw[hF];rw[hs]at hw;have hd1:=hd.at_ now;have hans:=aE3 (YK d now) (by have:=hd1.last;omega) (by have:=hd1.time;omega) (by have:=hd1.lease;omega) s (YZ d now s.k);generalize Jl (YK d now) s (YZ d now s.k)=A at hans;generalize YK d now=d1 at hat hans;generalize YZ d now s.k=h at hat hans;refine Jc Ja Tryz.func155 rfl Tryz.call155 rfl ?_;intro ρ w hH;conv=>whnf
    refine Jb hat rfl rfl ?_;conv=>whnf
    refine cs ?_;conv=>whnf
    repeat ((first|refine qT fun hc=>?_|refine qF fun hc=>?_);conv=>whnf)
    refine Jb hw rfl rfl ?_;conv=>whnf
    refine cs ?_;conv=>whnf
    repeat ((first|refine qT fun hc=>?_|refine qF fun hc=>?_);conv=>whnf)
    refine Uy (k:=0) rfl rfl (show 0<2 from by decide) ?_;conv=>whnf
    refine Uz hans rfl rfl rfl (show 0<2 from by decide) ?_;conv=>whnf
    refine cs ?_;conv=>whnf
    refine WS Ja (k:=Qb s.k) (v:=hdL A.h) YL rfl rfl rfl rfl rfl rfl rfl rfl ?_;conv=>whnf
    exact cl
 have b1:=JG k1;by_cases k4:s.kind=4
 ·have a4:=YI k4;cases hh:d.has s.k with
  |false =>
   rw[show Yg d now s=((VS,false),YK d now)from by unfold Yg;rw[if_neg (by simp[hh])]];rw[hh]at hat;refine Jc Ja Tryz.func155 rfl Tryz.call155 rfl ?_;intro ρ w hH;conv=>whnf
   refine Jb hat rfl rfl ?_;conv=>whnf
   refine cs ?_;conv=>whnf
   repeat ((first|refine qT fun hc=>?_|refine qF fun hc=>?_);conv=>whnf)
   exact cl
  |true =>
   rw[hh]at hat;cases hs:Jf s.st 1 6 with
   |false =>
    rw[show Yg d now s=((VS,false),YK d now)from by unfold Yg;rw[if_neg (by simp[hs])]];rw[hs]at hw;refine Jc Ja Tryz.func155 rfl Tryz.call155 rfl ?_;intro ρ w hH;conv=>whnf
    refine Jb hat rfl rfl ?_;conv=>whnf
    refine cs ?_;conv=>whnf
    repeat ((first|refine qT fun hc=>?_|refine qF fun hc=>?_);conv=>whnf)
    refine Jb hw rfl rfl ?_;conv=>whnf
    refine cs ?_;conv=>whnf
    repeat ((first|refine qT fun hc=>?_|refine qF fun hc=>?_);conv=>whnf)
    exact cl
   |true =>
    have hF:Yg d now s=((⟨0,(Jl (YK d now) s (YZ d now s.k)).kind,s.st,s.k,(Jl (YK d now) s (YZ d now s.k)).num,0⟩,true),upD (Jl (YK d now) s (YZ d now s.k)).d s.k (Jl (YK d now) s (YZ d now s.k)).h):=by
     unfold Yg;rw[if_pos ⟨by simp[ae0,k4],hh,hs⟩]
    rw[hF];rw[hs]at hw;have hd1:=hd.at_ now;have hans:=aE3 (YK d now) (by have:=hd1.last;omega) (by have:=hd1.time;omega) (by have:=hd1.lease;omega) s (YZ d now s.k);generalize Jl (YK d now) s (YZ d now s.k)=A at hans;generalize YK d now=d1 at hat hans;generalize YZ d now s.k=h at hat hans;refine Jc Ja Tryz.func155 rfl Tryz.call155 rfl ?_;intro ρ w hH;conv=>whnf
    refine Jb hat rfl rfl ?_;conv=>whnf
    refine cs ?_;conv=>whnf
    repeat ((first|refine qT fun hc=>?_|refine qF fun hc=>?_);conv=>whnf)
    refine Jb hw rfl rfl ?_;conv=>whnf
    refine cs ?_;conv=>whnf
    repeat ((first|refine qT fun hc=>?_|refine qF fun hc=>?_);conv=>whnf)
    refine Uy (k:=0) rfl rfl (show 0<2 from by decide) ?_;conv=>whnf
    refine Uz hans rfl rfl rfl (show 0<2 from by decide) ?_;conv=>whnf
    refine cs ?_;conv=>whnf
    refine WS Ja (k:=Qb s.k) (v:=hdL A.h) YL rfl rfl rfl rfl rfl rfl rfl rfl ?_;conv=>whnf
    exact cl
 have b4:=JG k4;by_cases k6:s.kind=6
 ·have a6:=YI k6;cases hh:d.has s.k with
  |false =>
   rw[show Yg d now s=((VS,false),YK d now)from by unfold Yg;rw[if_neg (by simp[hh])]];rw[hh]at hat;refine Jc Ja Tryz.func155 rfl Tryz.call155 rfl ?_;intro ρ w hH;conv=>whnf
   refine Jb hat rfl rfl ?_;conv=>whnf
   refine cs ?_;conv=>whnf
   repeat ((first|refine qT fun hc=>?_|refine qF fun hc=>?_);conv=>whnf)
   exact cl
  |true =>
   rw[hh]at hat;cases hs:Jf s.st 1 6 with
   |false =>
    rw[show Yg d now s=((VS,false),YK d now)from by unfold Yg;rw[if_neg (by simp[hs])]];rw[hs]at hw;refine Jc Ja Tryz.func155 rfl Tryz.call155 rfl ?_;intro ρ w hH;conv=>whnf
    refine Jb hat rfl rfl ?_;conv=>whnf
    refine cs ?_;conv=>whnf
    repeat ((first|refine qT fun hc=>?_|refine qF fun hc=>?_);conv=>whnf)
    refine Jb hw rfl rfl ?_;conv=>whnf
    refine cs ?_;conv=>whnf
    repeat ((first|refine qT fun hc=>?_|refine qF fun hc=>?_);conv=>whnf)
    exact cl
   |true =>
    have hF:Yg d now s=((⟨0,(Jl (YK d now) s (YZ d now s.k)).kind,s.st,s.k,(Jl (YK d now) s (YZ d now s.k)).num,0⟩,true),upD (Jl (YK d now) s (YZ d now s.k)).d s.k (Jl (YK d now) s (YZ d now s.k)).h):=by
     unfold Yg;rw[if_pos ⟨by simp[ae0,k6],hh,hs⟩]
    rw[hF];rw[hs]at hw;have hd1:=hd.at_ now;have hans:=aE3 (YK d now) (by have:=hd1.last;omega) (by have:=hd1.time;omega) (by have:=hd1.lease;omega) s (YZ d now s.k);generalize Jl (YK d now) s (YZ d now s.k)=A at hans;generalize YK d now=d1 at hat hans;generalize YZ d now s.k=h at hat hans;refine Jc Ja Tryz.func155 rfl Tryz.call155 rfl ?_;intro ρ w hH;conv=>whnf
    refine Jb hat rfl rfl ?_;conv=>whnf
    refine cs ?_;conv=>whnf
    repeat ((first|refine qT fun hc=>?_|refine qF fun hc=>?_);conv=>whnf)
    refine Jb hw rfl rfl ?_;conv=>whnf
    refine cs ?_;conv=>whnf
    repeat ((first|refine qT fun hc=>?_|refine qF fun hc=>?_);conv=>whnf)
    refine Uy (k:=0) rfl rfl (show 0<2 from by decide) ?_;conv=>whnf
    refine Uz hans rfl rfl rfl (show 0<2 from by decide) ?_;conv=>whnf
    refine cs ?_;conv=>whnf
    refine WS Ja (k:=Qb s.k) (v:=hdL A.h) YL rfl rfl rfl rfl rfl rfl rfl rfl ?_;conv=>whnf
    exact cl
 have b6:=JG k6;by_cases k7:s.kind=7
 ·have a7:=YI k7;cases hh:d.has s.k with
  |false =>
   rw[show Yg d now s=((VS,false),YK d now)from by unfold Yg;rw[if_neg (by simp[hh])]];rw[hh]at hat;refine Jc Ja Tryz.func155 rfl Tryz.call155 rfl ?_;intro ρ w hH;conv=>whnf
   refine Jb hat rfl rfl ?_;conv=>whnf
   refine cs ?_;conv=>whnf
   repeat ((first|refine qT fun hc=>?_|refine qF fun hc=>?_);conv=>whnf)
   exact cl
  |true =>
   rw[hh]at hat;cases hs:Jf s.st 1 6 with
   |false =>
    rw[show Yg d now s=((VS,false),YK d now)from by unfold Yg;rw[if_neg (by simp[hs])]];rw[hs]at hw;refine Jc Ja Tryz.func155 rfl Tryz.call155 rfl ?_;intro ρ w hH;conv=>whnf
    refine Jb hat rfl rfl ?_;conv=>whnf
    refine cs ?_;conv=>whnf
    repeat ((first|refine qT fun hc=>?_|refine qF fun hc=>?_);conv=>whnf)
    refine Jb hw rfl rfl ?_;conv=>whnf
    refine cs ?_;conv=>whnf
    repeat ((first|refine qT fun hc=>?_|refine qF fun hc=>?_);conv=>whnf)
    exact cl
   |true =>
    have hF:Yg d now s=((⟨0,(Jl (YK d now) s (YZ d now s.k)).kind,s.st,s.k,(Jl (YK d now) s (YZ d now s.k)).num,0⟩,true),upD (Jl (YK d now) s (YZ d now s.k)).d s.k (Jl (YK d now) s (YZ d now s.k)).h):=by
     unfold Yg;rw[if_pos ⟨by simp[ae0,k7],hh,hs⟩]
    rw[hF];rw[hs]at hw;have hd1:=hd.at_ now;have hans:=aE3 (YK d now) (by have:=hd1.last;omega) (by have:=hd1.time;omega) (by have:=hd1.lease;omega) s (YZ d now s.k);generalize Jl (YK d now) s (YZ d now s.k)=A at hans;generalize YK d now=d1 at hat hans;generalize YZ d now s.k=h at hat hans;refine Jc Ja Tryz.func155 rfl Tryz.call155 rfl ?_;intro ρ w hH;conv=>whnf
    refine Jb hat rfl rfl ?_;conv=>whnf
    refine cs ?_;conv=>whnf
    repeat ((first|refine qT fun hc=>?_|refine qF fun hc=>?_);conv=>whnf)
    refine Jb hw rfl rfl ?_;conv=>whnf
    refine cs ?_;conv=>whnf
    repeat ((first|refine qT fun hc=>?_|refine qF fun hc=>?_);conv=>whnf)
    refine Uy (k:=0) rfl rfl (show 0<2 from by decide) ?_;conv=>whnf
    refine Uz hans rfl rfl rfl (show 0<2 from by decide) ?_;conv=>whnf
    refine cs ?_;conv=>whnf
    refine WS Ja (k:=Qb s.k) (v:=hdL A.h) YL rfl rfl rfl rfl rfl rfl rfl rfl ?_;conv=>whnf
    exact cl
 have b7:=JG k7;rw[show Yg d now s=((VS,false),YK d now)from by unfold Yg;rw[if_neg (by simp[ae0,k1,k4,k6,k7])]];refine Jc Ja Tryz.func155 rfl Tryz.call155 rfl ?_;intro ρ w hH;conv=>whnf
 refine Jb hat rfl rfl ?_;conv=>whnf
 refine cs ?_;conv=>whnf
 repeat ((first|refine qT fun hc=>?_|refine qF fun hc=>?_);conv=>whnf)
 exact cl
end Go.Proofs
namespace Go
namespace Sx
theorem Mp.get_put_self(M:Mp)(k v:List Int):(M.put k v).get k=some v:=by
 unfold Mp.get Mp.at Mp.put;cases hf:M.es.findIdx? (·.1==k)with
 |none =>
  have hne:=List.findIdx?_eq_none_iff.1 hf;have:(M.es++[(k,v,M.clk)]).find? (·.1==k)=some (k,v,M.clk):=by
   rw[List.find?_append,List.find?_eq_none.2 (fun x hx=>by simp[hne x hx])];simp
  show(List.find? _ (M.es++_)).map _=_;rw[this];rfl
 |some i =>
  obtain⟨hlt,hik,hmin⟩:=List.findIdx?_eq_some_iff_getElem.1 hf;show(List.find? _ (M.es.modify i _)).map _=_;have h1:(M.es.modify i fun x=>(k,v,x.2.2)).find? (·.1==k)=some (k,v,(M.es[i]).2.2):=by
   rw[List.find?_eq_some_iff_getElem];refine⟨by simp,i,by rw[List.length_modify];exact hlt,by rw[List.getElem_modify];simp,fun j hj=>?_⟩;have hjl:j<M.es.length:=by omega
   rw[List.getElem_modify,if_neg (by omega)]
   simpa using hmin j hj
  rw[h1];rfl
theorem Mp.get_put_ne(M:Mp){k k':List Int}(v:List Int)(h:k≠k'):(M.put k v).get k'=M.get k':=by
 unfold Mp.get Mp.at Mp.put;cases hf:M.es.findIdx? (·.1==k)with
 |none =>
  show(List.find? _ (M.es++_)).map _=_;rw[List.find?_append];have:List.find? (fun x:List Int×List Int×Nat=>x.1==k') [(k,v,M.clk)]=none:=by simp[h]
  rw[this];simp
 |some i =>
  obtain⟨hlt,hik0,hmin⟩:=List.findIdx?_eq_some_iff_getElem.1 hf;have hik:(M.es[i]).1=k:=by simpa using hik0
  show(List.find? _ (M.es.modify i _)).map _=_;clear hf hmin hik0;generalize M.es=l at hlt hik
  induction l generalizing i with
  |nil=>simp at hlt
  |cons a l ih =>
   cases i with
   |zero =>
    have hik:a.1=k:=hik;have h1:(a.1==k')=false:=by simpa [hik] using h
    simp[List.modify,h,h1]
   |succ i =>
    have e:(a::l).modify (i+1) (fun x=>(k,v,x.2.2))=a::l.modify i (fun x=>(k,v,x.2.2)):=by simp[List.modify]
    rw[e];by_cases ha:a.1=k'
    ·simp[ha]
    ·have h1:(a.1==k')=false:=by simpa using ha
     rw[List.find?_cons_of_neg (by simp[h1]),List.find?_cons_of_neg (by simp[h1])];exact ih i (by simpa using hlt) (by simpa using hik)
theorem Mp.put_len(M:Mp)(k v:List Int):(M.put k v).es.length≤M.es.length+1:=by
 unfold Mp.put;cases hf:M.es.findIdx? (·.1==k)with
 |none=>simp
 |some i=>simp
end Sx
end Go
