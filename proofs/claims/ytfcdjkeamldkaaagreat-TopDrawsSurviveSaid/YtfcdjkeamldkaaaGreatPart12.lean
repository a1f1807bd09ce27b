/-
  A part of the proof that a law answers true: lemmas of a symbolic walk, plain functions, or contracts of the functions walked (U7, U8, Sx58, U9, Ua, Ub, Pm33). Conditions: none.
-/
import Derived.Test.YtfcdjkeamldkaaaGreatPart11
import Derived.TacticsInMore
import Derived.Lib.Bytealg
set_option maxRecDepth 100000
set_option linter.unusedVariables false
set_option linter.unusedSimpArgs false
namespace Go.Proofs
open Go.Sx

theorem varF_facts:∀ (f:Nat) (z:UInt64),z.toNat < 128 ^ (f+1) → ∃ m,(varF f z).length=m+1∧m≤f∧(∀ k,k < m → 128≤z.toNat / 128 ^ k)∧z.toNat / 128 ^ m < 128 ∧
  (∀ k b,(varF f z)[k]? = some b → b.toNat=if k < m then z.toNat / 128 ^ k % 128+128 else z.toNat / 128 ^ k)
 | 0,z,hz=>by
  refine⟨0,rfl,Nat.le_refl _,(by omega),(by simpa using hz), ?_⟩
  intro k b h
  have hz:z.toNat < 128:=by simpa using hz
  cases k with
  | zero=>simp [varF] at h; subst h; simp; omega
  | succ k=>simp [varF] at h
 | f+1,z,hz=>by
  by_cases h:128≤z.toNat
  ·have e0:varF (f+1) z=(z.toUInt8 ||| 128) :: varF f (z >>> UInt64.ofNat 7):=by simp only [varF]; rw [if_pos h]
   rw [e0]
   have e1:(z >>> UInt64.ofNat 7).toNat=z.toNat / 128:=by
    rw [UInt64.toNat_shiftRight]; show z.toNat >>> 7=_; rw [Nat.shiftRight_eq_div_pow]
   obtain ⟨m,h1,h2,h3,h4,h5⟩:=varF_facts f (z >>> UInt64.ofNat 7) (by rw [e1]; rw [Nat.pow_succ] at hz; omega)
   rw [e1] at h3 h4 h5
   have e2:∀ k,z.toNat / 128 / 128 ^ k=z.toNat / 128 ^ (k+1):=fun k=>by rw [Nat.div_div_eq_div_mul,Nat.pow_succ,Nat.mul_comm]
   refine⟨m+1,by rw [List.length_cons,h1],by omega, ?_,by rw [← e2]; exact h4, ?_⟩
   ·intro k hk
    cases k with
    | zero=>simpa using h
    | succ k=>rw [← e2]; exact h3 k (by omega)
   ·intro k b hk
    cases k with
    | zero =>
     have e3:(z.toUInt8 ||| 128).toNat=z.toNat % 128+128:=by
      have:∀ b:Nat,b < 256 → b ||| 128=b % 128+128:=by decide
      rw [UInt8.toNat_or]
      show z.toUInt8.toNat ||| 128=_
      rw [this _ z.toUInt8.toNat_lt,UInt64.toNat_toUInt8]; omega
     simp at hk
     subst hk
     simp [e3]
    | succ k =>
     have h6:=h5 k b (by simpa using hk)
     rw [h6,e2]
     by_cases hkm:k < m
     ·rw [if_pos hkm,if_pos (by omega)]
     ·rw [if_neg hkm,if_neg (by omega)]
  ·have e0:varF (f+1) z=[z.toUInt8]:=by simp only [varF]; rw [if_neg h]
   rw [e0]
   refine⟨0,rfl,Nat.zero_le _,(by omega),(by simpa using h), ?_⟩
   intro k b hk
   cases k with
   | zero=>simp at hk; subst hk; simp; omega
   | succ k=>simp at hk

def zigF (n:Int):UInt64:=(u64i n <<< UInt64.ofNat 1) ^^^ u64i (n.fdiv 9223372036854775808)

theorem ofInt_nat (m:Nat):BitVec.ofInt 64 (m:Int)=BitVec.ofNat 64 m:=BitVec.ofInt_natCast 64 m

theorem zig_pos {n:Int} (h0:0≤n) (h1:n≤9223372036854775807):(zigF n).toNat=2 * n.toNat:=by
 have h2:n.fdiv 9223372036854775808=0:=by
  rw [Int.fdiv_eq_ediv_of_nonneg _ (by decide)]; omega
 unfold zigF
 rw [h2]
 have h3:u64i 0=0:=rfl
 rw [h3,UInt64.xor_zero,UInt64.toNat_shiftLeft,u64i,UInt64.toNat_ofNat']
 show ((n % 18446744073709551616).toNat % 2 ^ 64) <<< 1 % 2 ^ 64=_
 rw [Nat.shiftLeft_eq]; omega

theorem zig_neg {n:Int} (h0:n < 0) (h1:-9223372036854775808≤n):(zigF n).toNat=(-2 * n - 1).toNat:=by
 have h2:n.fdiv 9223372036854775808=-1:=by
  rw [Int.fdiv_eq_ediv_of_nonneg _ (by decide)]; omega
 unfold zigF
 rw [h2]
 have h3:(u64i (-1)).toBitVec=BitVec.allOnes 64:=rfl
 rw [← UInt64.toNat_toBitVec,UInt64.toBitVec_xor,h3,BitVec.xor_allOnes,BitVec.toNat_not,UInt64.toNat_toBitVec,UInt64.toNat_shiftLeft,u64i,UInt64.toNat_ofNat']
 show 2 ^ 64 - 1 - ((n % 18446744073709551616).toNat % 2 ^ 64) <<< 1 % 2 ^ 64=_
 rw [Nat.shiftLeft_eq]; omega

theorem wrap_i64' (z:Int):IntKind.i64.wrap z=(z+9223372036854775808) % 18446744073709551616 - 9223372036854775808:=by rw [IntKind.wrap_i64]

theorem zig_back {n:Int} (h:-9223372036854775808≤n∧n≤9223372036854775807) :
  bitsV .xor .i64 (((zigF n).toNat / 2:Nat):Int) (-((((zigF n).toNat % 2:Nat)):Int))=some n:=by
 show some (IntKind.i64.wrap ((BitVec.ofInt 64 (((zigF n).toNat / 2:Nat):Int) ^^^ BitVec.ofInt 64 (-((((zigF n).toNat % 2:Nat)):Int))).toNat:Int))=some n
 congr 1
 by_cases h0:0≤n
 ·rw [zig_pos h0 h.2]
  have e1:2 * n.toNat / 2=n.toNat:=by omega
  have e2:2 * n.toNat % 2=0:=by omega
  rw [e1,e2,ofInt_nat]
  have e3:BitVec.ofInt 64 (-((0:Nat):Int))=BitVec.ofNat 64 0:=rfl
  rw [e3,BitVec.xor_zero,BitVec.toNat_ofNat,wrap_i64']; omega
 ·rw [zig_neg (by omega) h.1]
  have e1:(-2 * n - 1).toNat / 2=(-n - 1).toNat:=by omega
  have e2:(-2 * n - 1).toNat % 2=1:=by omega
  rw [e1,e2,ofInt_nat]
  have e3:BitVec.ofInt 64 (-((1:Nat):Int))=BitVec.allOnes 64:=rfl
  rw [e3,BitVec.xor_allOnes,BitVec.toNat_not,BitVec.toNat_ofNat,wrap_i64']; omega

theorem zig_lt (n:Int):(zigF n).toNat < 128 ^ (10+1):=Nat.lt_of_lt_of_le (u64_lt _) (by decide)

theorem intF_zig (n:Int):intF n=varF 10 (zigF n):=rfl

theorem group_or {z:UInt64} {N k:Nat} (hz:z.toNat=N % 128 ^ k) (hN:N < 18446744073709551616) (hk:k < 10) (b:UInt8) (hb:b.toNat % 128=N / 128 ^ k % 128) :
  (z ||| (b &&& 127).toUInt64 <<< UInt64.ofNat (7 * k)).toNat=N % 128 ^ (k+1):=by
 have h1:(b &&& 127).toUInt64.toNat=N / 128 ^ k % 128:=by
  rw [UInt8.toNat_toUInt64,UInt8.toNat_and]
  show b.toNat &&& (2 ^ 7 - 1)=_
  rw [Nat.and_two_pow_sub_one_eq_mod]; exact hb
 have h2:(UInt64.ofNat (7 * k)).toNat % 64=7 * k:=by
  rw [UInt64.toNat_ofNat']; omega
 have h3:(128:Nat) ^ k=2 ^ (7 * k):=by rw [Nat.pow_mul]
 have h4:N / 128 ^ k % 128 * 128 ^ k≤N:=Nat.le_trans (Nat.mul_le_mul_right _ (Nat.mod_le _ _)) (Nat.div_mul_le_self _ _)
 rw [UInt64.toNat_or,UInt64.toNat_shiftLeft,h1,h2,hz,Nat.shiftLeft_eq,← h3,Nat.mod_eq_of_lt (Nat.lt_of_le_of_lt h4 hN),Nat.or_comm,Nat.mul_comm,h3]
 rw [← Nat.two_pow_add_eq_or_of_lt (Nat.mod_lt _ (Nat.two_pow_pos _)),← h3,Nat.pow_succ,Nat.mod_mul]; omega

theorem u8_and (x y:UInt8):bitsV .and .u8 (x.toNat:Int) (y.toNat:Int)=some ((x &&& y).toNat:Int):=by
 show some (IntKind.u8.wrap ((BitVec.ofInt 8 (x.toNat:Int) &&& BitVec.ofInt 8 (y.toNat:Int)).toNat:Int))=_
 have e:∀ x:UInt8,BitVec.ofInt 8 (x.toNat:Int)=x.toBitVec:=fun x=>by rw [BitVec.ofInt_natCast]; exact BitVec.ofNat_toNat ..
 rw [e,e,wrap_u8]
 have:=(x &&& y).toNat_lt
 show some (((x &&& y).toNat:Int) % 256)=_
 rw [Int.emod_eq_of_lt (by omega) (by omega)]

theorem shr1_nat (z:UInt64):(z >>> UInt64.ofNat 1).toNat=z.toNat / 2:=by
 rw [UInt64.toNat_shiftRight]
 have h:(UInt64.ofNat 1).toNat % 64=1:=by decide
 rw [h,Nat.shiftRight_eq_div_pow]

theorem shr1_i64 {z:UInt64} {N:Nat} (h:z.toNat=N):IntKind.i64.wrap ((z >>> UInt64.ofNat 1).toNat:Int)=((N / 2:Nat):Int):=by
 rw [shr1_nat,h,wrap_i64']
 have:=z.toNat_lt
 omega

theorem and1_nat (z:UInt64):(z &&& 1).toNat=z.toNat % 2:=by
 rw [UInt64.toNat_and]
 have h:(1:UInt64).toNat=2 ^ 1 - 1:=by decide
 rw [h,Nat.and_two_pow_sub_one_eq_mod]

theorem and1_i64 {z:UInt64} {N:Nat} (h:z.toNat=N):IntKind.i64.wrap ((z &&& 1).toNat:Int)=((N % 2:Nat):Int):=by
 rw [and1_nat,h,wrap_i64']
 omega


theorem one_t (s:List UInt8) (at_:Nat) (n:Int) (hn:-9223372036854775808≤n∧n≤9223372036854775807) (hs:s.length≤1000000000) (hle:at_+(intF n).length≤s.length)
  (h:∀ j b,(intF n)[j]? = some b → s[at_+j]? = some b) :
  Triple Tryz.prog 89 [.c (.p 0 0 0 0)] [(0,true, .cells [strC s, .v (.int .i64 at_)])] 1 (iv .i64 n) [(0,true, .cells [strC s, .v (.int .i64 ((at_+(intF n).length:Nat):Int))])]:=by
 obtain ⟨m,hm1,hm2,hm3,hm4,hm5⟩:=varF_facts 10 (zigF n) (zig_lt n)
 rw [← intF_zig] at hm1 hm5
 have hN:=u64_lt (zigF n)
 have hbytes:∀ k,k≤m → ∃ (hk:at_+k < s.length),(s[at_+k]'hk).toNat=if k < m then (zigF n).toNat / 128 ^ k % 128+128 else (zigF n).toNat / 128 ^ k:=by
  intro k hk
  have h1:(intF n)[k]? = some ((intF n)[k]'(by omega)):=List.getElem?_eq_getElem _
  have h2:=h k _ h1
  have hk2:at_+k < s.length:=by omega
  refine⟨hk2, ?_⟩
  rw [List.getElem?_eq_getElem hk2] at h2
  rw [Option.some.inj h2]
  exact hm5 k _ h1
 have hm9:m≤9:=by
  by_cases hx:m≤9
  ·exact hx
  ·have:=hm3 9 (by omega)
   have h9:(128:Nat) ^ 9=9223372036854775808:=by decide
   rw [h9] at this; omega
 generalize hN':(zigF n).toNat=N at *
 refine triple_of tB_ok Tryz.func89 rfl Tryz.call89 rfl ?_
 intro ρ w hH
 conv=>whnf
 refine loop_step tB_ok (G:=Nat × UInt64) 0 [] (fun g=>[(6,iv .i64 g.1),(3,uv g.2)]) (fun _=>[]) (fun g=>g.1≤m∧g.2.toNat=N % 128 ^ g.1) (fun g=>m - g.1) ?_
 conv=>whnf
 refine⟨⟨(0,0),⟨Nat.zero_le _,by simp [Nat.mod_one]⟩, ?_⟩, ?_⟩
 ·conv=>whnf
  repeat'(first|exact trivial|exact rfl|refine And.intro ?_ ?_|((conv=>whnf);first|exact trivial|exact rfl|refine And.intro ?_ ?_|omega))
 rintro ⟨k,z⟩ ⟨hk,hz⟩ ρ1 t1 hρ1
 dsimp only at hk hz
 obtain ⟨hlt,hb⟩:=hbytes k hk
 conv=>whnf
 refine⟨fun hc=>?_,fun hc=>?_⟩
 ·conv=>whnf
  refine⟨_,wrapId ⟨by omega,by omega⟩, ?_⟩
  conv=>whnf
  refine⟨fun hc=>?_,fun hc=>?_⟩
  ·have hc:decide ((s.length:Int)≤(at_:Int)+k)=true:=by assumption
   simp at hc; omega
  conv=>whnf
  refine⟨_,wrapId ⟨by omega,by omega⟩, ?_⟩
  conv=>whnf
  refine sidx_step (l:=s) tB_ok rfl rfl rfl rfl (at_+k) (by push_cast; rfl) hlt ?_
  conv=>whnf
  refine⟨_,u8_and _ 127, ?_⟩
  conv=>whnf
  refine⟨_,u8_to64 _, ?_⟩
  conv=>whnf
  refine⟨((7 * k:Nat):Int),by rw [wrapId ⟨by omega,by omega⟩]; push_cast; rfl, ?_⟩
  conv=>whnf
  refine⟨by omega,_,u64_shl _ (7 * k) (by omega), ?_⟩
  conv=>whnf
  refine⟨_,u64_or _ _, ?_⟩
  have hz2:=group_or (N:=N) hz hN (by omega) (s[at_+k]'hlt) (by
   rw [hb]
   by_cases hkm:k < m
   ·rw [if_pos hkm]; omega
   ·rw [if_neg hkm])
  generalize s[at_+k]'hlt=b at hb hz2 ⊢
  generalize z ||| (b &&& 127).toUInt64 <<< UInt64.ofNat (7 * k)=z2 at hz2 ⊢
  conv=>whnf
  refine⟨fun hc=>?_,fun hc=>?_⟩
  ·have hkm:k < m:=by
    have hc:decide ((128:Int)≤(b.toNat:Int))=true:=by assumption
    by_cases hkm:k < m
    ·exact hkm
    ·rw [if_neg hkm] at hb
     have:k=m:=by omega
     subst this
     simp at hc; omega
   conv=>whnf
   refine⟨_,wrapId ⟨by omega,by omega⟩, ?_⟩
   refine⟨(k+1,z2),⟨by omega,hz2⟩,by show m - (k+1) < m - k; omega, ?_⟩
   conv=>whnf
   refine⟨rfl, ?_⟩
   conv=>whnf
   repeat'(first|exact trivial|exact rfl|refine And.intro ?_ ?_|((conv=>whnf);first|exact trivial|exact rfl|refine And.intro ?_ ?_|omega))
  have hkm:k=m:=by
   have hc:decide ((128:Int)≤(b.toNat:Int))=false:=by assumption
   by_cases hkm:k < m
   ·rw [if_pos hkm] at hb
    simp at hc; omega
   ·omega
  subst hkm
  rw [if_neg (by omega)] at hb
  have hzN:z2.toNat=N:=by
   rw [hz2,Nat.pow_succ,Nat.mod_eq_of_lt]
   have:=(Nat.div_lt_iff_lt_mul (x:=N) (k:=128 ^ k) (y:=128) (Nat.pow_pos (by decide))).1 (by omega)
   rw [Nat.mul_comm]; exact this
  have hb0:0 < k → b.toNat ≠ 0:=by
   intro h0 hbz
   obtain ⟨j,rfl⟩:∃ j,k=j+1:=⟨k - 1,by omega⟩
   have h1:=hm3 j (by omega)
   rw [hb,Nat.pow_succ,← Nat.div_div_eq_div_mul] at hbz
   omega
  have hb9:k=9 → b.toNat≤1:=by
   intro h9
   subst h9
   have h9:(128:Nat) ^ 9=9223372036854775808:=by decide
   rw [h9] at hb; omega
  conv=>whnf
  refine⟨fun hc=>?_,fun hc=>?_⟩
  ·have h9:k=9:=by simp at hc; omega
   have hb9:=hb9 h9
   conv=>whnf
   refine⟨fun hc=>?_,fun hc=>?_⟩
   ·simp at hc; omega
   conv=>whnf
   refine⟨fun hc=>?_,fun hc=>?_⟩
   ·conv=>whnf
    refine⟨fun hc=>?_,fun hc=>?_⟩
    ·simp at hc; omega
    conv=>whnf
    refine⟨_,wrapId ⟨by omega,by omega⟩, ?_⟩
    conv=>whnf
    refine⟨_,wrapId ⟨by omega,by omega⟩, ?_⟩
    conv=>whnf
    refine⟨by decide,_,u64_shr _ 1 (by omega), ?_⟩
    conv=>whnf
    refine⟨_,shr1_i64 hzN, ?_⟩
    conv=>whnf
    refine⟨_,u64_and _ 1, ?_⟩
    conv=>whnf
    refine⟨_,and1_i64 hzN, ?_⟩
    conv=>whnf
    refine⟨-((N % 2:Nat):Int),by rw [wrap_i64']; omega, ?_⟩
    conv=>whnf
    refine⟨n,by rw [← hN']; exact zig_back hn, ?_⟩
    conv=>whnf
    repeat'(first|exact trivial|exact rfl|refine And.intro ?_ ?_|((conv=>whnf);first|exact trivial|exact rfl|refine And.intro ?_ ?_|omega))
   ·simp at hc; omega
  ·conv=>whnf
   refine⟨fun hc=>?_,fun hc=>?_⟩
   ·have hb0:=hb0 (by simp at hc; omega)
    conv=>whnf
    refine⟨fun hc=>?_,fun hc=>?_⟩
    ·simp at hc; omega
    conv=>whnf
    refine⟨_,wrapId ⟨by omega,by omega⟩, ?_⟩
    conv=>whnf
    refine⟨_,wrapId ⟨by omega,by omega⟩, ?_⟩
    conv=>whnf
    refine⟨by decide,_,u64_shr _ 1 (by omega), ?_⟩
    conv=>whnf
    refine⟨_,shr1_i64 hzN, ?_⟩
    conv=>whnf
    refine⟨_,u64_and _ 1, ?_⟩
    conv=>whnf
    refine⟨_,and1_i64 hzN, ?_⟩
    conv=>whnf
    refine⟨-((N % 2:Nat):Int),by rw [wrap_i64']; omega, ?_⟩
    conv=>whnf
    refine⟨n,by rw [← hN']; exact zig_back hn, ?_⟩
    conv=>whnf
    repeat'(first|exact trivial|exact rfl|refine And.intro ?_ ?_|((conv=>whnf);first|exact trivial|exact rfl|refine And.intro ?_ ?_|omega))
   ·conv=>whnf
    conv=>whnf
    refine⟨_,wrapId ⟨by omega,by omega⟩, ?_⟩
    conv=>whnf
    refine⟨_,wrapId ⟨by omega,by omega⟩, ?_⟩
    conv=>whnf
    refine⟨by decide,_,u64_shr _ 1 (by omega), ?_⟩
    conv=>whnf
    refine⟨_,shr1_i64 hzN, ?_⟩
    conv=>whnf
    refine⟨_,u64_and _ 1, ?_⟩
    conv=>whnf
    refine⟨_,and1_i64 hzN, ?_⟩
    conv=>whnf
    refine⟨-((N % 2:Nat):Int),by rw [wrap_i64']; omega, ?_⟩
    conv=>whnf
    refine⟨n,by rw [← hN']; exact zig_back hn, ?_⟩
    conv=>whnf
    repeat'(first|exact trivial|exact rfl|refine And.intro ?_ ?_|((conv=>whnf);first|exact trivial|exact rfl|refine And.intro ?_ ?_|omega))
 ·simp at hc; omega

end Go.Proofs

namespace Go.Proofs
open Go.Sx

abbrev scInt (n:Int):SC:=.v (.int .i64 n)
abbrev scText (l:List UInt8):SC:=strC l

theorem idle_t (vs:Array Value) (w:World) (hv:vs.size=3):CallsDIn Fence.wide 0 Tryz.prog 144 vs .returning w fun e u' w'=>(∃ v,e=.returned v)∧u'=.returning∧w'=w:=by
 have hP:Tryz.prog.underlying 30=some (.int .i64):=by kernel_rfl
 obtain ⟨z,hz,_⟩:=run_zero (P:=Tryz.prog) w (tB_ok.T.get (t:=30) rfl)
 have hta:(Instr.typeAssert .nilIface 20 30 true).run Tryz.prog w=.ok (.tuple #[z, .bool false]) w:=by
  simp [Instr.typeAssert,underlying,hP,hz]
 refine callsDIn_of_wpSIn Tryz.func144 rfl trivial fun c₀ cs hu=>?_
 apply wpSIn_seq
 apply wpSIn_region
 obtain ⟨v0,v1,v2,rfl⟩:∃ v0 v1 v2,vs=#[v0,v1,v2]:=by
  obtain ⟨l⟩:=vs
  match l,hv with
  | [a,b,c],_=>exact⟨a,b,c,rfl⟩
 simp [wpOpsSIn,go_sem,recoverD,hu,Tryz.ntmps144,Exit.thenS,hta]
 apply wpSIn_seq
 apply wpSIn_region
 simp [wpOpsSIn,go_sem,Exit.thenS]
 refine wpSIn_cond (t:=false) (by simp [Act.eval,Array.replicate]) ?_
 simp only [Bool.false_eq_true,if_false]
 refine wpSIn_of_wpIn rfl (wpIn_skip ?_)
 cases c₀
 simp_all [bodyPostS,results,Tryz.results144]

theorem tryInt_t (s:List UInt8) (i j:Nat) (x y:Int) (T:Triple Tryz.prog 90 [.c (.p 1 0 0 0), .c (.p 2 0 0 0)] [(0,true, .cells [strC s, .v (.int .i64 i)]),(1,false, .cells [.p 0 0 0 0]),(2,true, .cells [scInt x])] 3 (.tup [])
   [(0,true, .cells [strC s, .v (.int .i64 j)]),(2,true, .cells [scInt y])]) :
  Triple Tryz.prog 87 [.c (.p 0 0 0 0), .c (.f 90 [1,2])] [(0,true, .cells [strC s, .v (.int .i64 i)]),(1,false, .cells [.p 0 0 0 0]),(2,true, .cells [scInt x])] 3 (iv .i64 0)
   [(0,true, .cells [strC s, .v (.int .i64 j)]),(2,true, .cells [scInt y])]:=by
 refine triple_defer tB_ok 144 [5,3,4] Tryz.func87 rfl Tryz.call87 rfl rfl rfl rfl rfl rfl Tryz.call144 (fun vs w hv=>idle_t vs w hv) rfl ?_
 intro ρ w hH
 conv=>whnf
 refine⟨rfl,rfl,fun d=>?_⟩
 conv=>whnf
 refine call_step T rfl rfl ?_
 conv=>whnf
 refine⟨?_, ?_, ?_⟩
 iterate 2 · repeat'(first|exact trivial|exact rfl|refine And.intro ?_ ?_|((conv=>whnf);first|exact trivial|exact rfl|refine And.intro ?_ ?_|omega))
 conv=>whnf
 repeat'(first|exact trivial|exact rfl|refine And.intro ?_ ?_|((conv=>whnf);first|exact trivial|exact rfl|refine And.intro ?_ ?_|omega))

theorem tryText_t (s:List UInt8) (i j:Nat) (x y:List UInt8) (T:Triple Tryz.prog 88 [.c (.p 1 0 0 0), .c (.p 2 0 0 0)] [(0,true, .cells [strC s, .v (.int .i64 i)]),(1,false, .cells [.p 0 0 0 0]),(2,true, .cells [scText x])] 3 (.tup [])
   [(0,true, .cells [strC s, .v (.int .i64 j)]),(2,true, .cells [scText y])]) :
  Triple Tryz.prog 87 [.c (.p 0 0 0 0), .c (.f 88 [1,2])] [(0,true, .cells [strC s, .v (.int .i64 i)]),(1,false, .cells [.p 0 0 0 0]),(2,true, .cells [scText x])] 3 (iv .i64 0)
   [(0,true, .cells [strC s, .v (.int .i64 j)]),(2,true, .cells [scText y])]:=by
 refine triple_defer tB_ok 144 [5,3,4] Tryz.func87 rfl Tryz.call87 rfl rfl rfl rfl rfl rfl Tryz.call144 (fun vs w hv=>idle_t vs w hv) rfl ?_
 intro ρ w hH
 conv=>whnf
 refine⟨rfl,rfl,fun d=>?_⟩
 conv=>whnf
 refine call_step T rfl rfl ?_
 conv=>whnf
 refine⟨?_, ?_, ?_⟩
 iterate 2 · repeat'(first|exact trivial|exact rfl|refine And.intro ?_ ?_|((conv=>whnf);first|exact trivial|exact rfl|refine And.intro ?_ ?_|omega))
 conv=>whnf
 repeat'(first|exact trivial|exact rfl|refine And.intro ?_ ?_|((conv=>whnf);first|exact trivial|exact rfl|refine And.intro ?_ ?_|omega))

def Lies (s:List UInt8) (i:Nat) (l:List UInt8):Prop:=i+l.length≤s.length∧∀ j b,l[j]? = some b → s[i+j]? = some b

abbrev rdH (s:List UInt8) (i:Nat):Heap:=[(0,true, .cells [strC s, .v (.int .i64 i)])]

theorem intDo_t (s:List UInt8) (i:Nat) (n x:Int) (hn:-9223372036854775808≤n∧n≤9223372036854775807) (hs:s.length≤1000000000) (h:Lies s i (intF n)) :
  Triple Tryz.prog 90 [.c (.p 1 0 0 0), .c (.p 2 0 0 0)] [(0,true, .cells [strC s, .v (.int .i64 i)]),(1,false, .cells [.p 0 0 0 0]),(2,true, .cells [scInt x])] 3 (.tup [])
   [(0,true, .cells [strC s, .v (.int .i64 ((i+(intF n).length:Nat):Int))]),(2,true, .cells [scInt n])]:=by
 refine triple_of tB_ok Tryz.func90 rfl Tryz.call90 rfl ?_
 intro ρ w hH
 conv=>whnf
 refine call_step (one_t s i n hn hs h.1 h.2) rfl rfl ?_
 conv=>whnf
 refine⟨?_, ?_, ?_⟩
 iterate 2 · repeat'(first|exact trivial|exact rfl|refine And.intro ?_ ?_|((conv=>whnf);first|exact trivial|exact rfl|refine And.intro ?_ ?_|omega))
 conv=>whnf
 repeat'(first|exact trivial|exact rfl|refine And.intro ?_ ?_|((conv=>whnf);first|exact trivial|exact rfl|refine And.intro ?_ ?_|omega))

theorem rInt_t (s:List UInt8) (i:Nat) (n:Int) (hn:-9223372036854775808≤n∧n≤9223372036854775807) (hs:s.length≤1000000000) (h:Lies s i (intF n)) :
  Triple Tryz.prog 44 [.c (.p 0 0 0 0)] (rdH s i) 1 (.tup [.inl (.v (.int .i64 n)), .inl (.v (.int .i64 0))]) (rdH s (i+(intF n).length)):=by
 refine triple_of tB_ok Tryz.func44 rfl Tryz.call44 rfl ?_
 intro ρ w hH
 conv=>whnf
 refine call_step (tryInt_t s i (i+(intF n).length) 0 n (intDo_t s i n 0 hn hs h)) rfl rfl ?_
 conv=>whnf
 refine⟨?_, ?_, ?_⟩
 iterate 2 · repeat'(first|exact trivial|exact rfl|refine And.intro ?_ ?_|((conv=>whnf);first|exact trivial|exact rfl|refine And.intro ?_ ?_|omega))
 conv=>whnf
 repeat'(first|exact trivial|exact rfl|refine And.intro ?_ ?_|((conv=>whnf);first|exact trivial|exact rfl|refine And.intro ?_ ?_|omega))

theorem textDo_t (s:List UInt8) (i:Nat) (p x:List UInt8) (hs:s.length≤1000000000) (h:Lies s i (textF p)) :
  Triple Tryz.prog 88 [.c (.p 1 0 0 0), .c (.p 2 0 0 0)] [(0,true, .cells [strC s, .v (.int .i64 i)]),(1,false, .cells [.p 0 0 0 0]),(2,true, .cells [scText x])] 3 (.tup [])
   [(0,true, .cells [strC s, .v (.int .i64 ((i+(textF p).length:Nat):Int))]),(2,true, .cells [scText p])]:=by
 have h1:Lies s i (intF (p.length:Int)):=by
  refine⟨by have:=h.1; unfold textF at this; rw [List.length_append] at this; omega,fun j b hj=>h.2 j b ?_⟩
  unfold textF
  rw [List.getElem?_append_left (List.getElem?_eq_some_iff.1 hj).1]; exact hj
 have hlen:i+(intF (p.length:Int)).length+p.length≤s.length:=by have:=h.1; unfold textF at this; rw [List.length_append] at this; omega
 have h2:((s.take (i+(intF (p.length:Int)).length+p.length)).drop (i+(intF (p.length:Int)).length))=p:=by
  apply List.ext_getElem?
  intro j
  rw [List.getElem?_drop,List.getElem?_take]
  by_cases hj:j < p.length
  ·rw [if_pos (by omega)]
   have:=h.2 ((intF (p.length:Int)).length+j) p[j] (by unfold textF; rw [List.getElem?_append_right (by omega),Nat.add_sub_cancel_left,List.getElem?_eq_getElem hj])
   rw [Nat.add_assoc,this,List.getElem?_eq_getElem hj]
  ·rw [if_neg (by omega),List.getElem?_eq_none (by omega)]
 have h3:(textF p).length=(intF (p.length:Int)).length+p.length:=by unfold textF; rw [List.length_append]
 refine triple_of tB_ok Tryz.func88 rfl Tryz.call88 rfl ?_
 intro ρ w hH
 conv=>whnf
 refine call_step (one_t s i p.length ⟨by omega,by omega⟩ hs h1.1 h1.2) rfl rfl ?_
 conv=>whnf
 refine⟨?_, ?_, ?_⟩
 iterate 2 · repeat'(first|exact trivial|exact rfl|refine And.intro ?_ ?_|((conv=>whnf);first|exact trivial|exact rfl|refine And.intro ?_ ?_|omega))
 conv=>whnf
 refine⟨fun hc=>?_,fun hc=>?_⟩
 ·simp at hc; omega
 generalize hL:(intF (p.length:Int)).length=L at *
 rw [h3]
 conv=>whnf
 refine⟨_,wrapId (z:=(s.length:Int) - ((i+L:Nat):Int)) ⟨by omega,by omega⟩, ?_⟩
 conv=>whnf
 refine⟨fun hc=>?_,fun hc=>?_⟩
 ·have hc:decide ((s.length:Int) - ((i+L:Nat):Int) < (p.length:Int))=true:=by assumption
  simp at hc; omega
 conv=>whnf
 refine⟨_,wrapId ⟨by omega,by omega⟩, ?_⟩
 conv=>whnf
 refine ssub_step (l:=s) tB_ok rfl rfl rfl ⟨i+L+p.length,by push_cast; rfl,by omega,i+L,rfl,by omega, ?_⟩
 rw [h2]
 conv=>whnf
 refine⟨_,wrapId ⟨by omega,by omega⟩, ?_⟩
 conv=>whnf
 repeat'(first|exact trivial|exact rfl|refine And.intro ?_ ?_|((conv=>whnf);first|exact trivial|exact rfl|refine And.intro ?_ ?_|omega))
 all_goals omega

theorem rText_t (s:List UInt8) (i:Nat) (p:List UInt8) (hs:s.length≤1000000000) (h:Lies s i (textF p)) :
  Triple Tryz.prog 42 [.c (.p 0 0 0 0)] (rdH s i) 1 (.tup [.inl (strC p), .inl (.v (.int .i64 0))]) (rdH s (i+(textF p).length)):=by
 refine triple_of tB_ok Tryz.func42 rfl Tryz.call42 rfl ?_
 intro ρ w hH
 conv=>whnf
 refine call_step (tryText_t s i (i+(textF p).length) [] p (textDo_t s i p [] hs h)) rfl rfl ?_
 conv=>whnf
 refine⟨?_, ?_, ?_⟩
 iterate 2 · repeat'(first|exact trivial|exact rfl|refine And.intro ?_ ?_|((conv=>whnf);first|exact trivial|exact rfl|refine And.intro ?_ ?_|omega))
 conv=>whnf
 repeat'(first|exact trivial|exact rfl|refine And.intro ?_ ?_|((conv=>whnf);first|exact trivial|exact rfl|refine And.intro ?_ ?_|omega))

theorem newReader_t (s:List UInt8):Triple Tryz.prog 41 [strV s] [] 0 (.c (.p 0 0 0 0)) (rdH s 0):=by
 refine triple_of tB_ok Tryz.func41 rfl Tryz.call41 rfl ?_
 intro ρ w hH
 conv=>whnf
 repeat'(first|exact trivial|exact rfl|refine And.intro ?_ ?_|((conv=>whnf);first|exact trivial|exact rfl|refine And.intro ?_ ?_|omega))

theorem done_t (s:List UInt8) (i:Nat):Triple Tryz.prog 43 [.c (.p 0 0 0 0)] (rdH s i) 1 (bv ((i:Int) == (s.length:Int))) []:=by
 refine triple_of tB_ok Tryz.func43 rfl Tryz.call43 rfl ?_
 intro ρ w hH
 conv=>whnf
 repeat'(first|exact trivial|exact rfl|refine And.intro ?_ ?_|((conv=>whnf);first|exact trivial|exact rfl|refine And.intro ?_ ?_|omega))

end Go.Proofs

namespace Go
namespace Sx
variable {cx:Cx} {B:Tabs} {o:Oper} {e:Env} {H:Heap} {nx:Nat} {K:Eff → Prop}

theorem ext2_step {c : Call} {x y : Operand} {f : FuncId} {fn : Func} {ext : Array Value → Sem Value} {vx vy r : Value} (ho : o.op = .call c) (hc : c.callee = .value (.func f)) (hca : c.args = #[x, y]) (hf : cx.P.funcs[f]? = some fn) (hname : (fn.name == "runtime.NumGoroutine") = false)
    (hb:fn.body.isNone=true) (hn:Extern.findNext fn=none) (he:Extern.find fn=some ext) (hx:ev e x=.c (.v vx)) (hy:ev e y=.c (.v vy)) (hrun:∀ w,(ext #[vx,vy]).run cx.P w=.ok r w) (hK:K ⟨.c (.v r),[],[],[]⟩):∃ f,CallOK cx o e H nx f∧K f:=by
  have hmx:x ∈ o.op.operands.toList:=by simp [ho,Op.operands,Call.operands,hc,hca]
  have hmy:y ∈ o.op.operands.toList:=by simp [ho,Op.operands,Call.operands,hc,hca]
  refine pure_step (by simp [ho]) ⟨fun m hm _=>below_lit m _,fun ρ a w hr _=>⟨r, ?_,rfl⟩⟩ hK
  have hx':=lit_of hmx hx hr
  have hy':=lit_of hmy hy hr
  have h1:=run_callFunc_extern (P:=cx.P) hf hname hb hn he #[vx,vy] w
  rw [hrun w] at h1
  simp only [Result.andThen_ok] at h1
  have hfv:a.eval (.func f)=.func (.func f) #[] #[]:=rfl
  simp [execOp,ho,resolve,hc,hca,hfv,Deferred.ofValue,invoke,hx',hy',h1]

end Sx
end Go

namespace Go.Proofs
open Go.Sx

def figs:List UInt8:=[48,49,50,51,52,53,54,55,56,57,97,98,99,100,101,102]

def figF (n:Nat):UInt8:=figs.getD n 0

theorem idxByte_t (l:List UInt8) (c:UInt8):Triple Tryz.prog 86 [strV l,bt c] [] 0 (iv .i64 (Lib.indexByte l c)) []:=by
 refine triple_of tB_ok Tryz.func86 rfl Tryz.call86 rfl ?_
 intro ρ w hH
 conv=>whnf
 refine ext2_step (fn:=Tryz.f143) (ext:=Extern.BytealgIndexByte.indexByte) (vx:=.string (S l)) (vy:=.int .u8 c.toNat) (r:=.int .i64 (Lib.indexByte l c)) rfl rfl rfl (by kernel_rfl) (by kernel_rfl) (by kernel_rfl) (by kernel_rfl) (by kernel_rfl) rfl rfl
  (fun w=>by rw [Lib.run_indexByteString]; simp [S]) ?_
 conv=>whnf
 repeat'(first|exact trivial|exact rfl|refine And.intro ?_ ?_|((conv=>whnf);first|exact trivial|exact rfl|refine And.intro ?_ ?_|omega))

theorem indexByte_t (l:List UInt8) (c:UInt8):Triple Tryz.prog 40 [strV l,bt c] [] 0 (iv .i64 (Lib.indexByte l c)) []:=by
 refine triple_of tB_ok Tryz.func40 rfl Tryz.call40 rfl ?_
 intro ρ w hH
 conv=>whnf
 refine call_step (idxByte_t l c) rfl rfl ?_
 conv=>whnf
 refine⟨?_, ?_, ?_⟩
 iterate 2 · repeat'(first|exact trivial|exact rfl|refine And.intro ?_ ?_|((conv=>whnf);first|exact trivial|exact rfl|refine And.intro ?_ ?_|omega))
 conv=>whnf
 repeat'(first|exact trivial|exact rfl|refine And.intro ?_ ?_|((conv=>whnf);first|exact trivial|exact rfl|refine And.intro ?_ ?_|omega))

def hexF (d:List UInt8):List UInt8:=d.flatMap fun x=>[figF (x.toNat / 16),figF (x.toNat % 16)]

theorem hexF_length (d:List UInt8):(hexF d).length=2 * d.length:=by
 induction d with
 | nil=>rfl
 | cons x d ih=>simp only [hexF,List.flatMap_cons,List.length_append,List.length_cons,List.length_nil] at *; omega

theorem hexF_snoc (d:List UInt8) (x:UInt8):hexF (d ++ [x])=(hexF d ++ [figF (x.toNat / 16)]) ++ [figF (x.toNat % 16)]:=by
 simp [hexF]

theorem u8_shr4 (x:UInt8):(x.toNat:Int).fdiv (2 ^ (min 4 8))=((x.toNat / 16:Nat):Int):=by
 show (x.toNat:Int).fdiv 16=_
 rw [Int.fdiv_eq_ediv_of_nonneg _ (by decide)]; omega

theorem figs_get {n:Nat} (h:n < 16) (hz:n < figs.length):figs[n]'hz=figF n:=by simp [figF,List.getD,List.getElem?_eq_getElem hz]

def hexH (j k:Nat) (l:List UInt8):Nat → Heap
 | 0=>[(j,true,bld0)]
 | i+1=>[(j,true,bldS j k (hexF (l.take (i+1))).length),(k,true, .arr (aBuf (hexF (l.take (i+1)))))]

theorem len_snoc (l:List UInt8) (b:UInt8):l.length+1=(l ++ [b]).length:=by simp

theorem hex_t (l:List UInt8) (hl:l.length=16):Triple Tryz.prog 27 [arrS l] [] 0 (strV (hexF l)) []:=by
 refine triple_of tB_ok Tryz.func27 rfl Tryz.call27 rfl ?_
 intro ρ w hH
 conv=>whnf
 refine boxA_step (l:=l) rfl rfl ?_
 conv=>whnf
 refine allocT_step tB_ok rfl rfl ?_
 conv=>whnf
 refine loadA_step (l:=l) tB_ok rfl rfl rfl rfl rfl hl.symm ?_
 conv=>whnf
 refine loop_step tB_ok (G:=Nat) 1 [] (fun i=>[(7,iv .i64 i)]) (fun i=>hexH 1 2 l i) (fun i=>i≤16) (fun i=>16 - i) ?_
 conv=>whnf
 refine⟨⟨0,Nat.zero_le _, ?_⟩, ?_⟩
 ·conv=>whnf
  repeat'(first|exact trivial|exact rfl|refine And.intro ?_ ?_|((conv=>whnf);first|exact trivial|exact rfl|refine And.intro ?_ ?_|omega))
 intro i hi ρ1 t1 hρ1
 have hi:i≤16:=hi
 match i,hi with
 | 0,hi =>
  conv=>whnf
  refine⟨fun hc=>?_,fun hc=>absurd hc (by decide)⟩
  conv=>whnf
  refine idxA_step (l:=l) (n:=16) tB_ok rfl rfl rfl rfl rfl rfl rfl 0 rfl hl (by omega) ?_
  conv=>whnf
  refine⟨by decide,_,u8_shr4 _, ?_⟩
  conv=>whnf
  refine sidx_step (l:=figs) tB_ok rfl rfl rfl rfl (l[0].toNat / 16) rfl (by have:=u8_lt l[0]; show _ < 16; omega) ?_
  rw [figs_get (by have:=u8_lt l[0]; omega)]
  conv=>whnf
  refine call_step (wbyte0_t (figF (l[0].toNat / 16))) rfl rfl ?_
  conv=>whnf
  refine⟨?_, ?_, ?_⟩
  iterate 2 · repeat'(first|exact trivial|exact rfl|refine And.intro ?_ ?_|((conv=>whnf);first|exact trivial|exact rfl|refine And.intro ?_ ?_|omega))
  conv=>whnf
  refine⟨_,u8_and _ 15, ?_⟩
  conv=>whnf
  refine sidx_step (l:=figs) tB_ok rfl rfl rfl rfl (l[0].toNat % 16) ?_ (by show _ < 16; omega) ?_
  ·rw [UInt8.toNat_and]; show ((_ &&& (2 ^ 4 - 1):Nat):Int)=_; rw [Nat.and_two_pow_sub_one_eq_mod]
  rw [figs_get (by omega)]
  conv=>whnf
  refine call_step (wbyteN_t ([] ++ [figF (l[0].toNat / 16)]) (figF (l[0].toNat % 16)) (by simp)) rfl rfl ?_
  conv=>whnf
  refine⟨(by repeat'(first|exact trivial|exact rfl|refine And.intro ?_ ?_|((conv=>whnf);first|exact trivial|exact rfl|refine And.intro ?_ ?_|omega))),(by repeat' (first | exact (len_snoc _ _) | exact trivial | exact rfl | refine And.intro ?_ ?_ | ((conv=>whnf); first | exact (len_snoc _ _) | exact trivial | exact rfl | refine And.intro ?_ ?_ | omega))), ?_⟩
  conv=>whnf
  refine⟨_,wrapId ⟨by omega,by omega⟩, ?_⟩
  have e:hexF (l.take (0+1))=([] ++ [figF (l[0].toNat / 16)]) ++ [figF (l[0].toNat % 16)]:=by
   rw [take_snoc (by omega),hexF_snoc]
   try rfl
  refine⟨0+1,by omega,by show 16 - (0+1) < 16 - 0; omega, ?_⟩
  dsimp only [hexH]
  rw [e]
  conv=>whnf
  refine⟨rfl, ?_⟩
  conv=>whnf
  repeat'(first|exact trivial|exact rfl|refine And.intro ?_ ?_|((conv=>whnf);first|exact trivial|exact rfl|refine And.intro ?_ ?_|omega))
  all_goals simp
 | i+1,hi =>
  conv=>whnf
  refine⟨fun hc=>?_,fun hc=>?_⟩
  ·have hi:i+1 < 16:=by simp at hc; omega
   have hx:=hexF_length (l.take (i+1))
   rw [List.length_take] at hx
   have hx2:(hexF (l.take (i+1)) ++ [figF (l[i+1].toNat / 16)]).length≤1000000:=by
    rw [List.length_append]; show _+1≤_; omega
   conv=>whnf
   refine idxA_step (l:=l) (n:=16) tB_ok rfl rfl rfl rfl rfl rfl rfl (i+1) rfl hl (by omega) ?_
   conv=>whnf
   refine⟨by decide,_,u8_shr4 _, ?_⟩
   conv=>whnf
   refine sidx_step (l:=figs) tB_ok rfl rfl rfl rfl (l[(i+1)].toNat / 16) rfl (by have:=u8_lt l[(i+1)]; show _ < 16; omega) ?_
   rw [figs_get (by have:=u8_lt l[(i+1)]; omega)]
   conv=>whnf
   refine call_step (wbyteN_t (hexF (l.take (i+1))) (figF (l[i+1].toNat / 16)) (by omega)) rfl rfl ?_
   conv=>whnf
   refine⟨?_, ?_, ?_⟩
   iterate 2 · repeat'(first|exact trivial|exact rfl|refine And.intro ?_ ?_|((conv=>whnf);first|exact trivial|exact rfl|refine And.intro ?_ ?_|omega))
   conv=>whnf
   refine⟨_,u8_and _ 15, ?_⟩
   conv=>whnf
   refine sidx_step (l:=figs) tB_ok rfl rfl rfl rfl (l[(i+1)].toNat % 16) ?_ (by show _ < 16; omega) ?_
   ·rw [UInt8.toNat_and]; show ((_ &&& (2 ^ 4 - 1):Nat):Int)=_; rw [Nat.and_two_pow_sub_one_eq_mod]
   rw [figs_get (by omega)]
   conv=>whnf
   refine call_step (wbyteN_t (hexF (l.take (i+1)) ++ [figF (l[i+1].toNat / 16)]) (figF (l[i+1].toNat % 16)) hx2) rfl rfl ?_
   conv=>whnf
   refine⟨(by repeat'(first|exact trivial|exact rfl|refine And.intro ?_ ?_|((conv=>whnf);first|exact trivial|exact rfl|refine And.intro ?_ ?_|omega))),(by repeat' (first | exact (len_snoc _ _) | exact trivial | exact rfl | refine And.intro ?_ ?_ | ((conv=>whnf); first | exact (len_snoc _ _) | exact trivial | exact rfl | refine And.intro ?_ ?_ | omega))), ?_⟩
   conv=>whnf
   refine⟨_,wrapId ⟨by omega,by omega⟩, ?_⟩
   have e:hexF (l.take ((i+1)+1))=((hexF (l.take (i+1))) ++ [figF (l[(i+1)].toNat / 16)]) ++ [figF (l[(i+1)].toNat % 16)]:=by
    rw [take_snoc (by omega),hexF_snoc]
    try rfl
   refine⟨(i+1)+1,by omega,by show 16 - ((i+1)+1) < 16 - (i+1); omega, ?_⟩
   dsimp only [hexH]
   rw [e]
   conv=>whnf
   refine⟨rfl, ?_⟩
   conv=>whnf
   repeat'(first|exact trivial|exact rfl|refine And.intro ?_ ?_|((conv=>whnf);first|exact trivial|exact rfl|refine And.intro ?_ ?_|omega))
   all_goals simp
  ·have hi:i=15:=by simp at hc; omega
   subst hi
   have hx:(hexF (l.take (15+1))).length=32:=by rw [hexF_length,List.length_take]; omega
   have hte:l.take (15+1)=l:=List.take_of_length_le (by omega)
   conv=>whnf
   refine call_step (bstr_t (hexF (l.take (15+1))) (by omega) (by omega)) rfl rfl ?_
   conv=>whnf
   refine⟨?_, ?_, ?_⟩
   iterate 2 · repeat'(first|exact trivial|exact rfl|refine And.intro ?_ ?_|((conv=>whnf);first|exact trivial|exact rfl|refine And.intro ?_ ?_|omega))
   rw [hte]
   conv=>whnf
   repeat'(first|exact trivial|exact rfl|refine And.intro ?_ ?_|((conv=>whnf);first|exact trivial|exact rfl|refine And.intro ?_ ?_|omega))

end Go.Proofs

namespace Go.Proofs
open Go.Sx

theorem hexF_get:∀ (d:List UInt8) (k:Nat) (h:k < (hexF d).length) (hz:k / 2 < d.length),(hexF d)[k]'h=figF (if k % 2=0 then (d[k / 2]'hz).toNat / 16 else (d[k / 2]'hz).toNat % 16)
 | [],k,h,hz=>by simp at hz
 | x :: d,0,h,hz=>rfl
 | x :: d,1,h,hz=>rfl
 | x :: d,k+2,h,hz=>by
  have e1:(k+2) / 2=k / 2+1:=by omega
  have e2:(k+2) % 2=k % 2:=by omega
  have h1:k < (hexF d).length:=by rw [hexF_length] at h ⊢; simp at h; omega
  have h2:k / 2 < d.length:=by simp at hz; omega
  have:=hexF_get d k h1 h2
  simp only [e1,e2,List.getElem_cons_succ]
  rw [← this]
  rfl

theorem idx_fig:∀ n,n < 16 → Lib.indexByte figs (figF n)=(n:Int):=by decide

theorem nib:∀ n,n < 256 → (UInt8.ofNat (n / 16) <<< UInt8.ofNat 4 ||| UInt8.ofNat (n % 16))=UInt8.ofNat n:=by decide +kernel
theorem nib0:∀ n,n < 16 → ((0:UInt8) <<< UInt8.ofNat 4 ||| UInt8.ofNat n)=UInt8.ofNat n:=by decide +kernel

def unF (d:List UInt8) (k:Nat):List UInt8:=(List.range 16).map fun j=>if 2 * j+1 < k then d.getD j 0 else if 2 * j < k then UInt8.ofNat ((d.getD j 0).toNat / 16) else 0

theorem unF_length (d:List UInt8) (k:Nat):(unF d k).length=16:=by simp [unF]

theorem unF_get (d:List UInt8) (k j:Nat) (h:j < (unF d k).length):(unF d k)[j]'h=if 2 * j+1 < k then d.getD j 0 else if 2 * j < k then UInt8.ofNat ((d.getD j 0).toNat / 16) else 0:=by simp [unF]

theorem unF_zero (d:List UInt8):unF d 0=List.replicate 16 0:=by simp [unF]; rfl

theorem unF_all (d:List UInt8) (hd:d.length=16):unF d 32=d:=by
 apply List.ext_getElem
 ·rw [unF_length,hd]
 ·intro j h1 h2
  rw [unF_get,if_pos (by omega)]
  simp [List.getD,List.getElem?_eq_getElem h2]

def digF (d:List UInt8) (k:Nat):Nat:=if k % 2=0 then (d.getD (k / 2) 0).toNat / 16 else (d.getD (k / 2) 0).toNat % 16

theorem digF_lt (d:List UInt8) (k:Nat):digF d k < 16:=by
 have:=u8_lt (d.getD (k / 2) 0)
 unfold digF; split <;> omega

theorem unF_step (d:List UInt8) (hd:d.length=16) (k:Nat) (hk:k < 32) (h:k / 2 < (unF d k).length) :
  (unF d k).set (k / 2) ((unF d k)[k / 2]'h <<< UInt8.ofNat 4 ||| UInt8.ofNat (digF d k))=unF d (k+1):=by
 have hg:=unF_get d k (k / 2) h
 rw [hg]
 have hx:=u8_lt (d.getD (k / 2) 0)
 apply List.ext_getElem
 ·rw [List.length_set,unF_length,unF_length]
 ·intro j h1 h2
  rw [List.getElem_set]
  by_cases hj:k / 2=j
  ·subst hj
   rw [if_pos rfl,unF_get]
   unfold digF
   by_cases he:k % 2=0
   ·rw [if_neg (by omega),if_neg (by omega),if_pos he,if_neg (by omega),if_pos (by omega)]
    exact nib0 _ (by omega)
   ·rw [if_neg (by omega),if_pos (by omega),if_neg he,if_pos (by omega),nib _ hx]
    simp
  ·rw [if_neg hj,unF_get,unF_get]
   by_cases h3:2 * j+1 < k
   ·rw [if_pos h3,if_pos (by omega)]
   ·rw [if_neg h3]
    by_cases h4:2 * j < k
    ·omega
    ·rw [if_neg h4,if_neg (by omega),if_neg (by omega)]

theorem u8_shl4 (x:UInt8):IntKind.u8.wrap ((x.toNat:Int) * 2 ^ (min 4 8))=((x <<< UInt8.ofNat 4).toNat:Int):=by
 rw [wrap_u8,UInt8.toNat_shiftLeft]
 show (x.toNat:Int) * 16 % 256=((x.toNat <<< 4 % 256:Nat):Int)
 rw [Nat.shiftLeft_eq]; omega

theorem tdiv2 (k:Nat) (h:k < 32):IntKind.i64.wrap ((k:Int).tdiv 2)=((k / 2:Nat):Int):=by
 rw [Int.tdiv_eq_ediv_of_nonneg (by omega),wrapId ⟨by omega,by omega⟩]; omega

theorem unhex_t (d:List UInt8) (hd:d.length=16):Triple Tryz.prog 9 [strV (hexF d)] [] 0 (.tup [.inl (.v (arrV d)), .inl (.v (.int .i64 0))]) []:=by
 have hl:(hexF d).length=32:=by rw [hexF_length,hd]
 generalize hs:hexF d=s at hl ⊢
 refine triple_of tB_ok Tryz.func9 rfl Tryz.call9 rfl ?_
 intro ρ w hH
 conv=>whnf
 refine allocA_step tB_ok 16 rfl rfl rfl ?_
 conv=>whnf
 refine allocA_step tB_ok 16 rfl rfl rfl ?_
 conv=>whnf
 refine⟨fun hc=>?_,fun hc=>?_⟩
 ·have hc:((s.length:Int) != 32)=true:=hc
  simp [hl] at hc
 conv=>whnf
 refine loop_step tB_ok (G:=Nat) 0 [] (fun k=>[(13,iv .i64 k)]) (fun k=>[(1,true, .arr (aU8 (some 16) (unF d k)))]) (fun k=>k≤32) (fun k=>32 - k) ?_
 conv=>whnf
 refine⟨⟨0,Nat.zero_le _, ?_⟩, ?_⟩
 ·dsimp only
  rw [unF_zero]
  conv=>whnf
  repeat'(first|exact trivial|exact rfl|refine And.intro ?_ ?_|((conv=>whnf);first|exact trivial|exact rfl|refine And.intro ?_ ?_|omega))
 intro k hk ρ1 t1 hρ1
 conv=>whnf
 refine⟨fun hc=>?_,fun hc=>?_⟩
 ·have hk:k < 32:=by
   have hc:decide ((k:Int) < (s.length:Int))=true:=hc
   simp at hc; omega
  conv=>whnf
  refine sidx_step (l:=s) tB_ok rfl rfl rfl rfl k rfl (by omega) ?_
  have hsk:s[k]'(by omega)=figF (digF d k):=by
   subst hs
   rw [hexF_get d k (by omega) (by omega)]
   unfold digF
   simp [List.getD,List.getElem?_eq_getElem (show k / 2 < d.length by omega)]
  rw [hsk]
  conv=>whnf
  refine call_step (indexByte_t figs (figF (digF d k))) rfl rfl ?_
  conv=>whnf
  refine⟨?_, ?_, ?_⟩
  iterate 2 · repeat'(first|exact trivial|exact rfl|refine And.intro ?_ ?_|((conv=>whnf);first|exact trivial|exact rfl|refine And.intro ?_ ?_|omega))
  rw [idx_fig _ (digF_lt d k)]
  conv=>whnf
  refine⟨fun hc=>?_,fun hc=>?_⟩
  ·simp at hc; omega
  have hj:k / 2 < (unF d k).length:=by rw [unF_length]; omega
  conv=>whnf
  refine⟨by decide,_,tdiv2 k hk, ?_⟩
  conv=>whnf
  refine⟨by decide,_,tdiv2 k hk, ?_⟩
  conv=>whnf
  refine iaA_step tB_ok rfl rfl rfl rfl rfl rfl (k / 2) rfl (by omega) ?_
  conv=>whnf
  refine⟨hj, ?_⟩
  conv=>whnf
  refine⟨by decide,_,u8_shl4 _, ?_⟩
  conv=>whnf
  refine⟨((UInt8.ofNat (digF d k)).toNat:Int),by have:=digF_lt d k; rw [wrap_u8,UInt8.toNat_ofNat']; omega, ?_⟩
  conv=>whnf
  refine⟨_,u8_or _ _, ?_⟩
  conv=>whnf
  refine iaA_step tB_ok rfl rfl rfl rfl rfl rfl (k / 2) rfl (by omega) ?_
  conv=>whnf
  refine⟨hj,_,rfl, ?_⟩
  have hst:=unF_step d hd k hk hj
  conv=>whnf
  refine⟨_,wrapId ⟨by omega,by omega⟩, ?_⟩
  refine⟨k+1,hk,by show 32 - (k+1) < 32 - k; omega, ?_⟩
  dsimp only
  rw [← hst]
  conv=>whnf
  refine⟨rfl, ?_⟩
  conv=>whnf
  repeat'(first|exact trivial|exact rfl|refine And.intro ?_ ?_|((conv=>whnf);first|exact trivial|exact rfl|refine And.intro ?_ ?_|omega))
 ·have hk:k=32:=by
   have hc:decide ((k:Int) < (s.length:Int))=false:=hc
   simp at hc; omega
  subst hk
  rw [unF_all d hd]
  conv=>whnf
  refine loadA_step (l:=d) tB_ok rfl rfl rfl rfl rfl hd.symm ?_
  conv=>whnf
  refine storeA_step (l':=d) tB_ok rfl rfl rfl rfl rfl (by simp) (by rw [hd]; simp) (by decide) ?_
  conv=>whnf
  refine⟨bytesV d,⟨fun j v hv=>?_,by rw [bytesV_length,hd],rfl⟩, ?_⟩
  ·have hj:j < d.length:=by have:=(List.getElem?_eq_some_iff.1 hv).1; rwa [bytesV_length] at this
   rw [bytesV_get hj] at hv; cases hv
   exact⟨j,0,by show j * 1+0=j; omega,aU8_cell.2 ⟨hj,rfl,rfl⟩⟩
  conv=>whnf
  repeat'(first|exact trivial|exact rfl|refine And.intro ?_ ?_|((conv=>whnf);first|exact trivial|exact rfl|refine And.intro ?_ ?_|omega))

end Go.Proofs

namespace Go.Proofs
open Go.Sx

def mulHi (x y:UInt64):UInt64 :=
 let x0:=x &&& 4294967295
 let x1:=x >>> UInt64.ofNat 32
 let y0:=y &&& 4294967295
 let y1:=y >>> UInt64.ofNat 32
 let w0:=x0 * y0
 let t:=x1 * y0+w0 >>> UInt64.ofNat 32
 let w1:=t &&& 4294967295
 let w2:=t >>> UInt64.ofNat 32
 let w1:=w1+x0 * y1
 x1 * y1+w2+w1 >>> UInt64.ofNat 32

theorem u64_lo (x:UInt64):(x &&& 4294967295).toNat=x.toNat % 4294967296:=by
 rw [UInt64.toNat_and]; show x.toNat &&& (2 ^ 32 - 1)=_; rw [Nat.and_two_pow_sub_one_eq_mod]

theorem u64_hi (x:UInt64):(x >>> UInt64.ofNat 32).toNat=x.toNat / 4294967296:=by
 rw [UInt64.toNat_shiftRight]
 have h:(UInt64.ofNat 32).toNat % 64=32:=by decide
 rw [h,Nat.shiftRight_eq_div_pow]

theorem prod_lt {a b:Nat} (ha:a < 4294967296) (hb:b < 4294967296):a * b≤18446744065119617025:=by
 have:=Nat.mul_le_mul (show a≤4294967295 by omega) (show b≤4294967295 by omega)
 omega

theorem mulHi_nat (x y:UInt64):(mulHi x y).toNat=x.toNat * y.toNat / 18446744073709551616:=by
 have hx:=u64_lt x
 have hy:=u64_lt y
 simp only [mulHi,UInt64.toNat_add,UInt64.toNat_mul,u64_lo,u64_hi]
 generalize hX:x.toNat=X at *
 generalize hY:y.toNat=Y at *
 generalize hx0:X % 4294967296=x0
 generalize hx1:X / 4294967296=x1
 generalize hy0:Y % 4294967296=y0
 generalize hy1:Y / 4294967296=y1
 have eX:X=x1 * 4294967296+x0:=by omega
 have eY:Y=y1 * 4294967296+y0:=by omega
 have h00:=prod_lt (a:=x0) (b:=y0) (by omega) (by omega)
 have h10:=prod_lt (a:=x1) (b:=y0) (by omega) (by omega)
 have h01:=prod_lt (a:=x0) (b:=y1) (by omega) (by omega)
 have h11:=prod_lt (a:=x1) (b:=y1) (by omega) (by omega)
 have e:X * Y=x1 * y1 * 18446744073709551616+(x1 * y0+x0 * y1) * 4294967296+x0 * y0:=by
  rw [eX,eY,Nat.add_mul,Nat.mul_add,Nat.mul_add,Nat.add_mul]
  have a1:x1 * 4294967296 * (y1 * 4294967296)=x1 * y1 * 18446744073709551616:=by
   rw [Nat.mul_mul_mul_comm]
  have a2:x1 * 4294967296 * y0=x1 * y0 * 4294967296:=by rw [Nat.mul_right_comm]
  have a3:x0 * (y1 * 4294967296)=x0 * y1 * 4294967296:=by rw [Nat.mul_assoc]
  rw [a1,a2,a3]; omega
 rw [e]
 generalize x0 * y0=d at *
 generalize x1 * y0=b at *
 generalize x0 * y1=c at *
 generalize x1 * y1=a at *
 omega

theorem u64_mul (x y:UInt64):IntKind.u64.wrap ((x.toNat:Int) * (y.toNat:Int))=((x * y).toNat:Int):=by
 rw [wrap_u64,UInt64.toNat_mul,← Int.natCast_mul]
 show ((x.toNat * y.toNat:Nat):Int) % _=((x.toNat * y.toNat % 2 ^ 64:Nat):Int)
 omega

theorem mul64_t (x y:UInt64):Triple Tryz.prog 178 [uv x,uv y] [] 0 (.tup [.inl (.v (.int .u64 (mulHi x y).toNat)), .inl (.v (.int .u64 (x * y).toNat))]) []:=by
 refine triple_of tB_ok Tryz.func178 rfl Tryz.call178 rfl ?_
 intro ρ w hH
 conv=>whnf
 refine⟨_,u64_and x 4294967295, ?_⟩
 conv=>whnf
 refine⟨by decide,_,u64_shr x 32 (by omega), ?_⟩
 conv=>whnf
 refine⟨_,u64_and y 4294967295, ?_⟩
 conv=>whnf
 refine⟨by decide,_,u64_shr y 32 (by omega), ?_⟩
 conv=>whnf
 refine⟨_,u64_mul _ _, ?_⟩
 conv=>whnf
 refine⟨_,u64_mul _ _, ?_⟩
 conv=>whnf
 refine⟨by decide,_,u64_shr _ 32 (by omega), ?_⟩
 conv=>whnf
 refine⟨_,u64_add _ _, ?_⟩
 conv=>whnf
 refine⟨_,u64_and _ 4294967295, ?_⟩
 conv=>whnf
 refine⟨by decide,_,u64_shr _ 32 (by omega), ?_⟩
 conv=>whnf
 refine⟨_,u64_mul _ _, ?_⟩
 conv=>whnf
 refine⟨_,u64_add _ _, ?_⟩
 conv=>whnf
 refine⟨_,u64_mul _ _, ?_⟩
 conv=>whnf
 refine⟨_,u64_add _ _, ?_⟩
 conv=>whnf
 refine⟨by decide,_,u64_shr _ 32 (by omega), ?_⟩
 conv=>whnf
 refine⟨_,u64_add _ _, ?_⟩
 conv=>whnf
 refine⟨_,u64_mul _ _, ?_⟩
 conv=>whnf
 repeat'(first|exact trivial|exact rfl|refine And.intro ?_ ?_|((conv=>whnf);first|exact trivial|exact rfl|refine And.intro ?_ ?_|omega))

def belowF (seed:List UInt8) (k n:Nat):Nat:=(mulHi (getF ((sumF 4 [seed,intF (k:Int)]).take 8)) (UInt64.ofNat n)).toNat

theorem belowF_lt (seed:List UInt8) (k n:Nat) (h:0 < n) (hn:n≤1000000):belowF seed k n < n:=by
 unfold belowF
 rw [mulHi_nat,UInt64.toNat_ofNat']
 have h1:=u64_lt (getF ((sumF 4 [seed,intF (k:Int)]).take 8))
 have h2:n % 2 ^ 64=n:=Nat.mod_eq_of_lt (by omega)
 rw [h2,Nat.div_lt_iff_lt_mul (by decide),Nat.mul_comm]
 exact (Nat.mul_lt_mul_left h).2 h1

theorem newStream_t (l:List UInt8) (hl:l.length=16):Triple Tryz.prog 147 [arrS l] [] 0 (.c (.p 1 0 0 0)) [(1,true, .cells [strC l, .v (.int .i64 0)])]:=by
 refine triple_of tB_ok Tryz.func147 rfl Tryz.call147 rfl ?_
 intro ρ w hH
 conv=>whnf
 refine boxA_step (l:=l) rfl rfl ?_
 rw [hl]
 conv=>whnf
 refine slA_step (n:=16) (l:=l) tB_ok rfl rfl rfl rfl rfl rfl ⟨Nat.le_refl _,Nat.zero_le _, ?_⟩
 conv=>whnf
 refine b2s_step (fx:=some 16) (l:=l) tB_ok rfl rfl rfl rfl rfl rfl (by show 0+16≤_; omega) ?_
 have e:(l.drop 0).take (subN 16 0)=l:=by show l.take 16=l; exact List.take_of_length_le (by omega)
 rw [e]
 conv=>whnf
 repeat'(first|exact trivial|exact rfl|refine And.intro ?_ ?_|((conv=>whnf);first|exact trivial|exact rfl|refine And.intro ?_ ?_|omega))

theorem below_t (seed:List UInt8) (hs:seed.length=16) (k n:Nat) (hk:k≤1000000) (hn:0 < n∧n≤1000000) :
  Triple Tryz.prog 148 [.c (.p 0 0 0 0),iv .i64 n] [(0,true, .cells [strC seed, .v (.int .i64 k)])] 1 (iv .i64 (belowF seed k n)) [(0,true, .cells [strC seed, .v (.int .i64 ((k+1:Nat):Int))])]:=by
 have hlt:=belowF_lt seed k n hn.1 hn.2
 refine triple_of tB_ok Tryz.func148 rfl Tryz.call148 rfl ?_
 intro ρ w hH
 conv=>whnf
 refine⟨fun hc=>?_,fun hc=>?_⟩
 ·simp at hc; omega
 conv=>whnf
 refine call_step (int_t (k:Int) ⟨by omega,by omega⟩) rfl rfl ?_
 conv=>whnf
 refine⟨?_, ?_, ?_⟩
 iterate 2 · repeat'(first|exact trivial|exact rfl|refine And.intro ?_ ?_|((conv=>whnf);first|exact trivial|exact rfl|refine And.intro ?_ ?_|omega))
 conv=>whnf
 refine bs_step tB_ok (aStr [seed,intF (k:Int)]) rfl rfl ?_
 conv=>whnf
 refine⟨⟨rfl,(by repeat'(first|exact trivial|exact rfl|refine And.intro ?_ ?_|((conv=>whnf);first|exact trivial|exact rfl|refine And.intro ?_ ?_|omega)))⟩, ?_⟩
 conv=>whnf
 refine call_step (sum_t 4 (by decide) [seed,intF (k:Int)] ⟨by simp, ?_⟩) rfl rfl ?_
 ·intro p hp
  have:=intF_length (k:Int)
  simp at hp
  rcases hp with rfl | rfl <;> omega
 conv=>whnf
 refine⟨?_, ?_, ?_⟩
 iterate 2 · repeat'(first|exact trivial|exact rfl|refine And.intro ?_ ?_|((conv=>whnf);first|exact trivial|exact rfl|refine And.intro ?_ ?_|omega))
 conv=>whnf
 refine allocA_step tB_ok 16 rfl rfl rfl ?_
 conv=>whnf
 generalize hL:sumF 4 [seed,intF (k:Int)]=L
 have hLl:L.length=16:=by rw [← hL]; exact sumF_length _ _
 refine storeA_step (l':=L) tB_ok rfl rfl rfl rfl rfl (by simp) (by rw [hLl]; simp) (by decide) ?_
 conv=>whnf
 refine⟨_,wrapId ⟨by omega,by omega⟩, ?_⟩
 conv=>whnf
 refine slA_step (n:=16) (l:=L) tB_ok rfl rfl rfl rfl rfl rfl ⟨8,rfl,by decide,Nat.zero_le _, ?_⟩
 conv=>whnf
 refine call_step (get_t (some 16) L 0 8 (by omega) (by decide)) rfl rfl ?_
 conv=>whnf
 refine⟨?_, ?_, ?_⟩
 iterate 2 · repeat'(first|exact trivial|exact rfl|refine And.intro ?_ ?_|((conv=>whnf);first|exact trivial|exact rfl|refine And.intro ?_ ?_|omega))
 conv=>whnf
 refine⟨((UInt64.ofNat n).toNat:Int),by rw [wrap_u64,UInt64.toNat_ofNat']; omega, ?_⟩
 conv=>whnf
 refine call_step (mul64_t (getF ((L.drop 0).take 8)) (UInt64.ofNat n)) rfl rfl ?_
 conv=>whnf
 refine⟨?_, ?_, ?_⟩
 iterate 2 · repeat'(first|exact trivial|exact rfl|refine And.intro ?_ ?_|((conv=>whnf);first|exact trivial|exact rfl|refine And.intro ?_ ?_|omega))
 have e:(mulHi (getF ((L.drop 0).take 8)) (UInt64.ofNat n)).toNat=belowF seed k n:=by rw [← hL]; rfl
 rw [e]
 conv=>whnf
 refine⟨(belowF seed k n:Int),by rw [wrapId ⟨by omega,by omega⟩], ?_⟩
 conv=>whnf
 repeat'(first|exact trivial|exact rfl|refine And.intro ?_ ?_|((conv=>whnf);first|exact trivial|exact rfl|refine And.intro ?_ ?_|omega))

def swapF (l:List Int) (i k:Nat):List Int:=(l.set i (l.getD k 0)).set k (l.getD i 0)

theorem swapF_length (l:List Int) (i k:Nat):(swapF l i k).length=l.length:=by simp [swapF]

def permN (seed:List UInt8) (n:Nat):Nat → List Int
 | 0=>(List.range n).map fun (i:Nat)=>(i:Int)
 | j+1=>swapF (permN seed n j) (n - 1 - j) (belowF seed j (n - 1 - j+1))

theorem permN_length (seed:List UInt8) (n:Nat):∀ j,(permN seed n j).length=n
 | 0=>by simp [permN]
 | j+1=>by simp only [permN]; rw [swapF_length]; exact permN_length seed n j

def permF (seed:List UInt8) (n:Nat):List Int:=permN seed n (n - 1)

theorem lt_set {l:List Int} {a b:Nat} {x:Int} (h:b < l.length):b < (l.set a x).length:=by rw [List.length_set]; exact h

theorem perm_t (seed:List UInt8) (hs:seed.length=16) (n:Nat) (hn:n≤100000) :
  Triple Tryz.prog 95 [arrS seed,iv .i64 n] [] 0 (.tup [.inl (.s 1 0 n 1), .inl (.v (.int .i64 0))]) [(1,true, .arr (aInt (permF seed n)))]:=by
 refine triple_of tB_ok Tryz.func95 rfl Tryz.call95 rfl ?_
 intro ρ w hH
 conv=>whnf
 refine boxA_step (l:=seed) rfl rfl ?_
 rw [hs]
 conv=>whnf
 refine⟨fun hc=>?_,fun hc=>?_⟩
 ·simp at hc; omega
 conv=>whnf
 refine⟨fun hc=>?_,fun hc=>?_⟩
 ·simp at hc; omega
 conv=>whnf
 refine mks_step tB_ok (aInt (List.replicate n 0)) rfl rfl ?_
 conv=>whnf
 refine⟨n,⟨by simp [aInt],rfl,rfl,by show n * 9≤_; omega, ?_⟩, ?_⟩
 ·intro x hx
  have hx:x ∈ List.replicate n (0:Int):=hx
  rw [(List.mem_replicate.1 hx).2]
  repeat'(first|exact trivial|exact rfl|refine And.intro ?_ ?_|((conv=>whnf);first|exact trivial|exact rfl|refine And.intro ?_ ?_|omega))
 conv=>whnf
 refine loop_step tB_ok (G:=Nat) 0 [] (fun i=>[(21,iv .i64 i)]) (fun i=>[(1,true, .arr (aInt ((List.range i).map (fun (j:Nat)=>(j:Int)) ++ List.replicate (n - i) 0)))]) (fun i=>i≤n) (fun i=>n - i) ?_
 conv=>whnf
 refine⟨⟨0,Nat.zero_le _, ?_⟩, ?_⟩
 ·conv=>whnf
  repeat'(first|exact trivial|exact rfl|refine And.intro ?_ ?_|((conv=>whnf);first|exact trivial|exact rfl|refine And.intro ?_ ?_|omega))
 intro i hi ρ1 t1 hρ1
 conv=>whnf
 refine⟨fun hc=>?_,fun hc=>?_⟩
 ·have hi:i < n:=by simp at hc; omega
  have hx:i < ((List.range i).map (fun (j:Nat)=>(j:Int)) ++ List.replicate (n - i) 0).length:=by simp; omega
  conv=>whnf
  refine⟨i,rfl,hi, ?_⟩
  conv=>whnf
  refine⟨hx,(i:Int),rfl, ?_⟩
  conv=>whnf
  refine⟨_,wrapId ⟨by omega,by omega⟩, ?_⟩
  refine⟨i+1,hi,by show n - (i+1) < n - i; omega, ?_⟩
  have e:(List.range (i+1)).map (fun (j:Nat)=>(j:Int)) ++ List.replicate (n - (i+1)) 0=((List.range i).map (fun (j:Nat)=>(j:Int)) ++ List.replicate (n - i) 0).set i (i:Int):=by
   obtain ⟨m,hm⟩:∃ m,n - i=m+1:=⟨n - i - 1,by omega⟩
   have hm2:n - (i+1)=m:=by omega
   rw [hm,hm2,List.range_succ,List.map_append,List.replicate_succ,List.set_append_right _ _ (by simp)]
   simp
  dsimp only
  rw [e]
  conv=>whnf
  refine⟨rfl, ?_⟩
  conv=>whnf
  repeat'(first|exact trivial|exact rfl|refine And.intro ?_ ?_|((conv=>whnf);first|exact trivial|exact rfl|refine And.intro ?_ ?_|omega))
 have hi:i=n:=by simp at hc; omega
 subst hi
 have e0:(List.range i).map (fun (j:Nat)=>(j:Int)) ++ List.replicate (i - i) 0=permN seed i 0:=by simp [permN]
 rw [e0]
 conv=>whnf
 refine loadA_step (l:=seed) tB_ok rfl rfl rfl rfl rfl hs.symm ?_
 conv=>whnf
 refine call_step (newStream_t seed hs) rfl rfl ?_
 conv=>whnf
 refine⟨?_, ?_, ?_⟩
 iterate 2 · repeat'(first|exact trivial|exact rfl|refine And.intro ?_ ?_|((conv=>whnf);first|exact trivial|exact rfl|refine And.intro ?_ ?_|omega))
 conv=>whnf
 refine⟨_,wrapId ⟨by omega,by omega⟩, ?_⟩
 refine loop_step tB_ok (G:=Nat) 0 [] (fun j=>[(9,iv .i64 ((i:Int) - 1 - j))]) (fun j=>[(1,true, .arr (aInt (permN seed i j))),(3,true, .cells [strC seed, .v (.int .i64 j)])]) (fun j=>j≤i - 1) (fun j=>i - 1 - j) ?_
 conv=>whnf
 refine⟨⟨0,Nat.zero_le _, ?_⟩, ?_⟩
 ·conv=>whnf
  repeat'(first|exact trivial|exact rfl|refine And.intro ?_ ?_|((conv=>whnf);first|exact trivial|exact rfl|refine And.intro ?_ ?_|omega))
 intro j hj ρ2 t2 hρ2
 have hl:=permN_length seed i j
 conv=>whnf
 refine⟨fun hc=>?_,fun hc=>?_⟩
 ·have hj:j < i - 1:=by simp at hc; omega
  conv=>whnf
  refine⟨((i - 1 - j+1:Nat):Int),by rw [wrapId ⟨by omega,by omega⟩]; omega, ?_⟩
  conv=>whnf
  refine call_step (below_t seed hs j (i - 1 - j+1) (by omega) ⟨by omega,by omega⟩) rfl rfl ?_
  conv=>whnf
  refine⟨?_, ?_, ?_⟩
  iterate 2 · repeat'(first|exact trivial|exact rfl|refine And.intro ?_ ?_|((conv=>whnf);first|exact trivial|exact rfl|refine And.intro ?_ ?_|omega))
  have hb:=belowF_lt seed j (i - 1 - j+1) (by omega) (by omega)
  generalize hB:belowF seed j (i - 1 - j+1)=b at hb ⊢
  have hab:addN 0 b < (permN seed i j).length:=by rw [addN_eq]; omega
  have hst:permN seed i (j+1)=((permN seed i j).set (i - 1 - j) ((permN seed i j)[b]'(by omega))).set b ((permN seed i j)[i - 1 - j]'(by omega)):=by
   simp only [permN,swapF,hB]
   simp [List.getD,List.getElem?_eq_getElem (show b < (permN seed i j).length by omega),List.getElem?_eq_getElem (show i - 1 - j < (permN seed i j).length by omega)]
  conv=>whnf
  refine⟨b,rfl,by omega, ?_⟩
  conv=>whnf
  refine⟨by rw [addN_eq]; show 0+b < (permN seed i j).length; omega, ?_⟩
  conv=>whnf
  refine⟨i - 1 - j,by omega,by omega, ?_⟩
  conv=>whnf
  refine⟨by rw [addN_eq]; show 0+(i - 1 - j) < (permN seed i j).length; omega, ?_⟩
  conv=>whnf
  refine⟨i - 1 - j,by omega,by omega, ?_⟩
  conv=>whnf
  refine⟨by rw [addN_eq]; show 0+(i - 1 - j) < (permN seed i j).length; omega,_,rfl, ?_⟩
  conv=>whnf
  refine⟨b,rfl,by omega, ?_⟩
  conv=>whnf
  refine⟨lt_set hab,_,rfl, ?_⟩
  conv=>whnf
  refine⟨_,wrapId ⟨by omega,by omega⟩, ?_⟩
  refine⟨j+1,by omega,by show i - 1 - (j+1) < i - 1 - j; omega, ?_⟩
  have e1:(i:Int) - 1 - j - 1=(i:Int) - 1 - ((j+1:Nat):Int):=by omega
  dsimp only
  rw [hst,← e1]
  conv=>whnf
  refine⟨rfl, ?_⟩
  conv=>whnf
  repeat' (first | exact (congrArg aInt (by simp only [addN_eq,Nat.zero_add]; rfl)) | exact trivial | exact rfl | refine And.intro ?_ ?_ | ((conv=>whnf); first | exact (congrArg aInt (by simp only [addN_eq,Nat.zero_add]; rfl)) | exact trivial | exact rfl | refine And.intro ?_ ?_ | omega))
 ·have hj:j=i - 1:=by simp at hc; omega
  subst hj
  conv=>whnf
  repeat'(first|exact trivial|exact rfl|refine And.intro ?_ ?_|((conv=>whnf);first|exact trivial|exact rfl|refine And.intro ?_ ?_|omega))

end Go.Proofs

/-
  Plain lemmas: the index of the first element that fits.
-/
namespace Go.Sx

def idxP {α:Type} (p:α → Bool) (l:List α):Int:=if l.any p then (l.findIdx p:Int) else -1

theorem idxP_at {α:Type} {p:α → Bool} {l:List α} {k:Nat} (hk:k < l.length) (hn:∀ x ∈ l.take k,p x=false) (hp:p l[k]=true):idxP p l=k:=by
  unfold idxP
  have ha:l.any p=true:=List.any_eq_true.2 ⟨l[k],List.getElem_mem hk,hp⟩
  rw [if_pos ha]
  have:l.findIdx p=k:=by
    rw [List.findIdx_eq hk]
    refine⟨hp,fun j hj=>?_⟩
    have:=hn (l[j]'(by omega)) (by rw [List.mem_take_iff_getElem]; exact⟨j,by omega,rfl⟩)
    simpa using this
  rw [this]

theorem idxP_none {α:Type} {p:α → Bool} {l:List α} (h:∀ x ∈ l,p x=false):idxP p l=-1:=by
  unfold idxP
  rw [if_neg]
  rw [List.any_eq_true]
  rintro ⟨x,hx,hp⟩
  rw [h x hx] at hp; cases hp

theorem idxP_ge {α:Type} (p:α → Bool) (l:List α):decide (0≤idxP p l)=l.any p:=by
  unfold idxP
  cases h:l.any p with
  | true=>rw [if_pos rfl]; exact decide_eq_true (by omega)
  | false=>rw [if_neg (by simp)]; rfl

end Go.Sx

