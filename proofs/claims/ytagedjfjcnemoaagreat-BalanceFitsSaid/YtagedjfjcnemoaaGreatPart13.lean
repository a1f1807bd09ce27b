/-
  A part of the proof that a law answers true: lemmas of a symbolic walk, plain functions, or contracts of the functions walked (Wh, Wi, Wj, Wk, Wl, Pm5, Pm6, Pm7, X1, Pm8, X2). Conditions: none.
-/
import Derived.Test.YtagedjfjcnemoaaGreatPart12
import Derived.Test.YtagedjfjcnemoaaGreatPart09
set_option maxRecDepth 100000
set_option linter.unusedVariables false
set_option linter.unusedSimpArgs false
namespace Go.Proofs
open Go.Sx

end Go.Proofs

namespace Go.Proofs
open Go.Sx

end Go.Proofs

namespace Go.Proofs
open Go.Sx

end Go.Proofs

namespace Go.Proofs
open Go.Sx

theorem seqRound (xs : List Lnk) (l : Lnk) (hlen : xs.length ≤ 1000000) : RoundT Tryz.prog Tryz.f242.ntmps [(2, .c (.p 1 0 0 0))] #[7]
    (rfA Tryz.f242) (rfB Tryz.f242) [svL l]
    [(1, true, .cells [.s 2 0 xs.length 4]), (2, true, .arr (aLink xs))] 3
    [(1, true, .cells [.s 3 0 (xs ++ [l]).length 4]), (3, true, .arr (aLink (xs ++ [l])))] := by
  refine round_of tB_ok rfl ?_
  intro Φ Φ' ρ w
  conv=>whnf
  refine ⟨rfl, ?_⟩
  conv=>whnf
  refine bs_step tB_ok (aLink [l]) rfl rfl ?_
  conv=>whnf
  refine ⟨⟨rfl, ⟨rfl, rfl, rfl, rfl, trivial⟩⟩, ?_⟩
  conv=>whnf
  refine app_step tB_ok (aLink xs) [l] (fun _ => rfl) rfl rfl rfl rfl ?_
  conv=>whnf
  refine ⟨⟨rfl, rfl, Nat.le_refl _, Nat.le_refl _, by simp; omega⟩, ?_⟩
  conv=>whnf
  refine ⟨rfl, ?_⟩
  conv=>whnf
  repeat' (first | exact trivial | exact rfl | refine And.intro ?_ ?_ | ((conv=>whnf); first | exact trivial | exact rfl | refine And.intro ?_ ?_ | omega))
  all_goals first | exact (congrArg aLink app1.symm : _) | exact (congrArg aLink app1 : _) | simp

theorem boxLinks_take {bs : List (Int × Int)} {i : Nat} (h : i < bs.length) : boxLinks 0 (bs.take (i + 1)) = (boxLinks 0 (bs.take i) ++ [⟨-1, i, bs[i].2, 0⟩]) ++ [⟨i, -1, -bs[i].1, 0⟩] := by
  rw [take_snoc h, boxLinks_append]
  have : 0 + (bs.take i).length = i := by simp; omega
  rw [this]
  simp [boxLinks]

theorem boxTake_len (bs : List (Int × Int)) (i : Nat) : (boxLinks 0 (bs.take i)).length ≤ 2 * bs.length := by
  rw [boxLinks_length, List.length_take]; omega

theorem appendSeqNil_t (bs : List (Int × Int)) (hb : bs.length ≤ 1000) (hB : BoxB bs) :
    Triple Tryz.prog 242 [.c (.v (.slice none 0 0)), .c (.f 243 [0])]
      [(0, false, .cells [.s 1 0 bs.length 2, .v (.slice none 0 0)]), (1, false, .arr (aSpan bs))] 2 (.c (.s 2 0 (boxLinks 0 bs).length 4)) [(2, true, .arr (aLink (boxLinks 0 bs)))] := by
  refine triple_of tB_ok Tryz.func242 rfl Tryz.call242 rfl ?_
  intro ρ w hH
  conv=>whnf
  refine range_step (asg := rfA Tryz.f242) (body := rfB Tryz.f242) tB_ok rfl Tryz.func243 rfl Tryz.call243 rfl ?_
  conv=>whnf
  intro fo d l T0 ρ1 hT hE hl1
  have hA : ∀ i sv, (i, sv) ∈ [(2, SV.c (.p 2 0 0 0))] → sv.rel ρ1 (T0.getD i undef) := by
    intro i sv hm
    rcases List.mem_cons.1 hm with he | hm
    · cases he; exact hE 2
    · cases hm
  clear hE
  conv=>whnf
  have hbl := boxTake_len bs
  refine loop_step tB_ok (G := Nat × List Lnk) 1 [] (fun g => [(10, iv .i64 g.1)]) (fun g => [(2, true, .cells [.s 5 0 g.2.length 4]), (5, true, .arr (aLink g.2)), (4, true, recO fo T0 #[7] (rfA Tryz.f242) (rfB Tryz.f242) d)])
    (fun g => g.1 ≤ bs.length ∧ g.2 = boxLinks 0 (bs.take g.1)) (fun g => bs.length - g.1) ?_
  conv=>whnf
  refine ⟨⟨(0, []), ⟨Nat.zero_le _, rfl⟩, ?_⟩, ?_⟩
  · conv=>whnf
    repeat' (first | exact trivial | exact rfl | refine And.intro ?_ ?_ | ((conv=>whnf); first | exact trivial | exact rfl | refine And.intro ?_ ?_ | omega))
  rintro ⟨i, xs⟩ ⟨hi, hxs⟩ ρ2 t2 hρ2
  have hi : i ≤ bs.length := hi
  have hxs : xs = boxLinks 0 (bs.take i) := hxs
  have hxl : xs.length ≤ 2 * bs.length := by rw [hxs]; exact hbl i
  have hρ2 : ∀ k, k < 5 → ρ2 k = ρ1 k := hρ2
  dsimp only
  conv=>whnf
  refine ⟨fun hc => ?_, fun hc => ?_⟩
  · conv=>whnf
    have h : i < bs.length := by simpa using hc
    have hst := boxLinks_take h
    rw [← hxs] at hst
    refine ⟨i, rfl, h, h, ?_⟩
    conv=>whnf
    refine yield_step (fn := fo) (d := d) [(2, .c (.p 2 0 0 0))] 4 (seqRound xs ⟨-1, i, bs[i].2, 0⟩ (by omega)) hT (relSt_agree hA rfl hρ2) ((congrArg Rg.blk (hρ2 4 (by omega))).trans hl1) rfl rfl rfl rfl ?_
    conv=>whnf
    refine ⟨?_, ?_, ?_⟩
    iterate 2 · repeat' (first | exact trivial | exact rfl | refine And.intro ?_ ?_ | ((conv=>whnf); first | exact trivial | exact rfl | refine And.intro ?_ ?_ | omega))
    conv=>whnf
    refine ⟨-bs[i].1, ?_, ?_⟩
    · have := (hB bs[i] (List.getElem_mem h)).1
      show IntKind.i64.wrap (0 - bs[i].1) = -bs[i].1
      rw [wrapId ⟨by omega, by omega⟩]; omega
    conv=>whnf
    refine yield_step (fn := fo) (d := d) [(2, .c (.p 2 0 0 0))] 4 (seqRound (xs ++ [⟨-1, i, bs[i].2, 0⟩]) ⟨i, -1, -bs[i].1, 0⟩ (by simp; omega)) hT (relSt_agree hA rfl hρ2) ((congrArg Rg.blk (hρ2 4 (by omega))).trans hl1) rfl rfl rfl rfl ?_
    conv=>whnf
    refine ⟨?_, ?_, ?_⟩
    iterate 2 · repeat' (first | exact trivial | exact rfl | refine And.intro ?_ ?_ | ((conv=>whnf); first | exact trivial | exact rfl | refine And.intro ?_ ?_ | omega))
    conv=>whnf
    refine ⟨_, wrapId ⟨by omega, by omega⟩, ?_⟩
    refine ⟨(i + 1, (xs ++ [⟨-1, i, bs[i].2, 0⟩]) ++ [⟨i, -1, -bs[i].1, 0⟩]), ⟨h, hst.symm⟩, by show bs.length - (i + 1) < bs.length - i; omega, ?_⟩
    conv=>whnf
    refine ⟨rfl, ?_⟩
    conv=>whnf
    repeat' (first | exact trivial | exact rfl | refine And.intro ?_ ?_ | ((conv=>whnf); first | exact trivial | exact rfl | refine And.intro ?_ ?_ | omega))
  have hie : i = bs.length := by simp at hc; omega
  rw [hie, List.take_length] at hxs
  conv=>whnf
  subst hxs
  refine loop_step tB_ok (G := Unit) 0 [] (fun g => [(36, iv .i64 0)]) (fun g => []) (fun g => True) (fun g => 0) ?_
  conv=>whnf
  refine ⟨⟨(), trivial, ?_⟩, ?_⟩
  · conv=>whnf
    repeat' (first | exact trivial | exact rfl | refine And.intro ?_ ?_ | ((conv=>whnf); first | exact trivial | exact rfl | refine And.intro ?_ ?_ | omega))
  intro _ _ ρ3 t3 hρ3
  conv=>whnf
  refine ⟨fun hc => ?_, fun hc => ?_⟩
  · simp at hc
  conv=>whnf
  refine ⟨rfl, ?_⟩
  conv=>whnf
  refine ⟨fun _ h => h, ?_⟩
  conv=>whnf
  repeat' (first | exact trivial | exact rfl | refine And.intro ?_ ?_ | ((conv=>whnf); first | exact trivial | exact rfl | refine And.intro ?_ ?_ | omega))

theorem allNil_t (bs : List (Int × Int)) : Triple Tryz.prog 198 [.agg [.s 0 0 bs.length 2, .v (.slice none 0 0)]] [(0, false, .arr (aSpan bs))] 1 (.c (.f 243 [1])) [(1, true, .cells [.s 0 0 bs.length 2, .v (.slice none 0 0)])] := by
  refine triple_of tB_ok Tryz.func198 rfl Tryz.call198 rfl ?_
  intro ρ w hH
  conv=>whnf
  repeat' (first | exact trivial | exact rfl | refine And.intro ?_ ?_ | ((conv=>whnf); first | exact trivial | exact rfl | refine And.intro ?_ ?_ | omega))

theorem collectNil_t (bs : List (Int × Int)) (hb : bs.length ≤ 1000) (hB : BoxB bs) :
    Triple Tryz.prog 197 [.c (.f 243 [0])]
      [(0, false, .cells [.s 1 0 bs.length 2, .v (.slice none 0 0)]), (1, false, .arr (aSpan bs))] 2 (.c (.s 2 0 (boxLinks 0 bs).length 4)) [(2, true, .arr (aLink (boxLinks 0 bs)))] := by
  refine triple_of tB_ok Tryz.func197 rfl Tryz.call197 rfl ?_
  intro ρ w hH
  conv=>whnf
  refine call_step (appendSeqNil_t bs hb hB) rfl rfl ?_
  conv=>whnf
  refine ⟨?_, ?_, ?_⟩
  iterate 2 · repeat' (first | exact trivial | exact rfl | refine And.intro ?_ ?_ | ((conv=>whnf); first | exact trivial | exact rfl | refine And.intro ?_ ?_ | omega))
  conv=>whnf
  repeat' (first | exact trivial | exact rfl | refine And.intro ?_ ?_ | ((conv=>whnf); first | exact trivial | exact rfl | refine And.intro ?_ ?_ | omega))

theorem Base_t (bs : List (Int × Int)) (ls : List Lnk) (hs : SysOK bs ls) :
    Triple Tryz.prog 129 [sysA bs.length ls.length] (sysH bs ls) 2 (.tup [.inl (.s 2 0 (boxLinks 0 bs).length 4), .inl (.v (.int .i64 0))]) [(2, true, .arr (aLink (boxLinks 0 bs)))] := by
  refine triple_of tB_ok Tryz.func129 rfl Tryz.call129 rfl ?_
  intro ρ w hH
  conv=>whnf
  have hnb := hs.nb
  have hnl := hs.nl
  refine call_step (check_t bs ls (by omega) (by omega)) rfl rfl ?_
  conv=>whnf
  refine ⟨?_, ?_, ?_⟩
  iterate 2 · repeat' (first | exact trivial | exact rfl | refine And.intro ?_ ?_ | ((conv=>whnf); first | exact trivial | exact rfl | refine And.intro ?_ ?_ | omega))
  conv=>whnf
  rw [checkF_ok.2 hs]
  refine ⟨fun hc => ?_, fun hc => ?_⟩
  · cases hc
  conv=>whnf
  refine call_step (allNil_t bs) rfl rfl ?_
  conv=>whnf
  refine ⟨?_, ?_, ?_⟩
  iterate 2 · repeat' (first | exact trivial | exact rfl | refine And.intro ?_ ?_ | ((conv=>whnf); first | exact trivial | exact rfl | refine And.intro ?_ ?_ | omega))
  conv=>whnf
  refine call_step (collectNil_t bs (by omega) hs.boxB) rfl rfl ?_
  conv=>whnf
  refine ⟨?_, ?_, ?_⟩
  iterate 2 · repeat' (first | exact trivial | exact rfl | refine And.intro ?_ ?_ | ((conv=>whnf); first | exact trivial | exact rfl | refine And.intro ?_ ?_ | omega))
  conv=>whnf
  repeat' (first | exact trivial | exact rfl | refine And.intro ?_ ?_ | ((conv=>whnf); first | exact trivial | exact rfl | refine And.intro ?_ ?_ | omega))

end Go.Proofs

namespace Go.Proofs
open Go.Sx

theorem app2 {α : Type} {zs : List α} {k : Nat} {b : α} (h : zs.length = k) : List.take k zs ++ List.take 1 (List.drop 0 [b]) = zs ++ [b] := by
  rw [List.take_of_length_le (Nat.le_of_eq h)]; rfl

theorem refbase_t (bs : List (Int × Int)) (ls : List Lnk) (hb : bs.length ≤ 1000) (hB : BoxB bs) :
    Triple Tryz.prog 247 [sysA bs.length ls.length] (sysH bs ls) 2 (.c (.s 2 0 (boxLinks 0 bs).length 4)) [(2, true, .arr (aLink (boxLinks 0 bs)))] := by
  refine triple_of tB_ok Tryz.func247 rfl Tryz.call247 rfl ?_
  intro ρ w hH
  conv=>whnf
  have hbl := boxTake_len bs
  refine loop_step tB_ok (G := Nat × List Lnk) 1 [] (fun g => [(4, iv .i64 g.1), (3, .c (.s 3 0 g.2.length 4))]) (fun g => [(3, true, .arr (aLink g.2))]) (fun g => g.1 ≤ bs.length ∧ g.2 = boxLinks 0 (bs.take g.1)) (fun g => bs.length - g.1) ?_
  conv=>whnf
  refine ⟨⟨(0, []), ⟨Nat.zero_le _, rfl⟩, ?_⟩, ?_⟩
  · conv=>whnf
    repeat' (first | exact trivial | exact rfl | refine And.intro ?_ ?_ | ((conv=>whnf); first | exact trivial | exact rfl | refine And.intro ?_ ?_ | omega))
  rintro ⟨i, xs⟩ ⟨hi, hxs⟩ ρ1 t1 hρ1
  have hi : i ≤ bs.length := hi
  have hxs : xs = boxLinks 0 (bs.take i) := hxs
  have hxl : xs.length ≤ 2 * bs.length := by rw [hxs]; exact hbl i
  dsimp only
  conv=>whnf
  refine ⟨fun hc => ?_, fun hc => ?_⟩
  · have h : i < bs.length := by simpa using hc
    have hst := boxLinks_take h
    rw [← hxs] at hst
    conv=>whnf
    refine ⟨i, rfl, h, h, ?_⟩
    conv=>whnf
    refine bs_step tB_ok (aLink [⟨-1, i, bs[i].2, 0⟩]) rfl rfl ?_
    conv=>whnf
    refine ⟨(by repeat' (first | exact trivial | exact rfl | refine And.intro ?_ ?_ | ((conv=>whnf); first | exact trivial | exact rfl | refine And.intro ?_ ?_ | omega))), ?_⟩
    conv=>whnf
    refine app_step tB_ok (aLink xs) [⟨-1, i, bs[i].2, 0⟩] (fun _ => rfl) rfl rfl rfl rfl ?_
    conv=>whnf
    refine ⟨⟨rfl, rfl, Nat.le_refl _, Nat.le_refl _, by show (xs.length + 1) * 33 ≤ _; omega⟩, ?_⟩
    conv=>whnf
    refine ⟨i, rfl, h, h, ?_⟩
    conv=>whnf
    refine ⟨-bs[i].1, ?_, ?_⟩
    · have := (hB bs[i] (List.getElem_mem h)).1
      show IntKind.i64.wrap (0 - bs[i].1) = -bs[i].1
      rw [wrapId ⟨by omega, by omega⟩]; omega
    conv=>whnf
    refine bs_step tB_ok (aLink [⟨i, -1, -bs[i].1, 0⟩]) rfl rfl ?_
    conv=>whnf
    refine ⟨(by repeat' (first | exact trivial | exact rfl | refine And.intro ?_ ?_ | ((conv=>whnf); first | exact trivial | exact rfl | refine And.intro ?_ ?_ | omega))), ?_⟩
    conv=>whnf
    refine app_step tB_ok (aLink (xs ++ [⟨-1, i, bs[i].2, 0⟩])) [⟨i, -1, -bs[i].1, 0⟩] (fun _ => rfl) rfl rfl rfl rfl ?_
    conv=>whnf
    refine ⟨⟨congrArg aLink app1, rfl, by show xs.length + 1 ≤ (xs ++ [_]).length; simp, Nat.le_refl _, by show (xs.length + 1 + 1) * 33 ≤ _; omega⟩, ?_⟩
    conv=>whnf
    refine ⟨_, wrapId ⟨by omega, by omega⟩, ?_⟩
    refine ⟨(i + 1, (xs ++ [⟨-1, i, bs[i].2, 0⟩]) ++ [⟨i, -1, -bs[i].1, 0⟩]), ⟨h, hst.symm⟩, by show bs.length - (i + 1) < bs.length - i; omega, ?_⟩
    conv=>whnf
    refine ⟨rfl, ?_⟩
    conv=>whnf
    repeat' (first | exact trivial | exact rfl | refine And.intro ?_ ?_ | ((conv=>whnf); first | exact trivial | exact rfl | refine And.intro ?_ ?_ | omega))
    · simp
    · have e2 : (xs ++ [(⟨-1, i, bs[i].2, 0⟩ : Lnk)]).length = xs.length + 1 := by simp
      exact congrArg aLink (app2 e2)
  have hie : i = bs.length := by simp at hc; omega
  rw [hie, List.take_length] at hxs
  subst hxs
  conv=>whnf
  repeat' (first | exact trivial | exact rfl | refine And.intro ?_ ?_ | ((conv=>whnf); first | exact trivial | exact rfl | refine And.intro ?_ ?_ | omega))


end Go.Proofs

/-
  Plain lemmas, part 5: relaxing arcs until nothing changes. A clock tells when each place was changed last; if a place is changed in a late round, the arcs over which the places were reached last form a cycle, and its sum is negative. Conditions: none; definitions and plain lemmas.
-/
namespace Go
namespace Proofs

structure Edg where
  k : Int
  a : Nat
  b : Nat
  w : Int

def relE (T : Tr) (e : Edg) : Tr := relax e.k e.a e.b e.w T

def edgs (n : Nat) (rev : Nat → Bool) : Nat → List Lnk → List Edg
  | _, [] => []
  | i, l :: r => ⟨2 * i, plc n l.f, plc n l.t, l.m⟩ :: ((if rev i then [⟨2 * i + 1, plc n l.t, plc n l.f, -l.m⟩] else []) ++ edgs n rev (i + 1) r)

theorem passF_edgs (n : Nat) (rev : Nat → Bool) : ∀ (xs : List Lnk) (i : Nat) (T : Tr), passF n rev i xs T = (edgs n rev i xs).foldl relE T
  | [], _, _ => rfl
  | l :: r, i, T => by
    simp only [passF, edgs, List.foldl_cons, List.foldl_append]
    rw [passF_edgs n rev r]
    congr 1
    unfold arcF
    cases rev i <;> rfl

theorem getD_set {α : Type} {xs : List α} {b v : Nat} {x d : α} (h : b < xs.length) : (xs.set b x).getD v d = if v = b then x else xs.getD v d := by
  simp only [List.getD_eq_getElem?_getD, List.getElem?_set]
  by_cases hv : b = v
  · subst hv; simp [h]
  · rw [if_neg hv, if_neg (fun h => hv h.symm)]

def OKE (e : Edg) (T : Tr) : Prop := T.there.getD e.b false = true ∧ T.sum.getD e.b 0 ≤ T.sum.getD e.a 0 + e.w

structure BF (E : List Edg) (N src r j : Nat) (ts : Nat → Nat) (T : Tr) : Prop where
  ls : T.sum.length = N
  lt : T.there.length = N
  ll : T.last.length = N
  so : src < N ∧ T.there.getD src false = true ∧ T.sum.getD src 0 ≤ 0 ∧ (T.sum.getD src 0 < 0 ∨ T.last.getD src (-1) = -1)
  low : ∀ q : Nat → Int, (∀ e ∈ E, q e.b ≤ q e.a + e.w) → ∀ v, v < N → T.there.getD v false = true → q v ≤ q src + T.sum.getD v 0
  root : ∀ v, v < N → T.last.getD v (-1) = -1 → (T.there.getD v false = true → v = src) ∧ ts v = 0
  par : ∀ v, v < N → T.last.getD v (-1) ≠ -1 → T.there.getD v false = true ∧ 1 ≤ ts v ∧ ∃ e ∈ E, e.k = T.last.getD v (-1) ∧ e.b = v ∧ T.there.getD e.a false = true ∧
    ts v ≤ ts e.a + E.length ∧ (T.sum.getD e.a 0 + e.w < T.sum.getD v 0 ∨ (T.sum.getD e.a 0 + e.w = T.sum.getD v 0 ∧ ts e.a < ts v))
  done : ∀ i e, E[i]? = some e → T.there.getD e.a false = true → (i < j → ts e.a ≤ r * E.length + i → OKE e T) ∧ (j ≤ i → ts e.a + E.length ≤ r * E.length + i → OKE e T)
  tm : ∀ v, ts v ≤ r * E.length + j

def EOK (N : Nat) (E : List Edg) : Prop := ∀ e ∈ E, e.a < N ∧ e.b < N ∧ 0 ≤ e.k

def relC (e : Edg) (T : Tr) : Bool := T.there.getD e.a false && (!T.there.getD e.b false || decide (T.sum.getD e.a 0 + e.w < T.sum.getD e.b 0))

theorem relC_no {e : Edg} {T : Tr} (h : relC e T = false) (ha : T.there.getD e.a false = true) : OKE e T := by
  unfold relC at h
  rw [ha, Bool.true_and, Bool.or_eq_false_iff] at h
  refine ⟨by simpa using h.1, ?_⟩
  have := of_decide_eq_false h.2
  omega

theorem relE_no {e : Edg} {T : Tr} (h : relC e T = false) : relE T e = T := by
  unfold relE relax
  unfold relC at h
  rw [h]; simp

theorem relE_yes {e : Edg} {T : Tr} (h : relC e T = true) : relE T e = ⟨T.sum.set e.b (T.sum.getD e.a 0 + e.w), T.there.set e.b true, T.last.set e.b e.k, e.b⟩ := by
  unfold relE relax
  unfold relC at h
  rw [h]; simp

theorem relC_yes {e : Edg} {T : Tr} (h : relC e T = true) : T.there.getD e.a false = true ∧ (T.there.getD e.b false = true → T.sum.getD e.a 0 + e.w < T.sum.getD e.b 0) := by
  unfold relC at h
  rw [Bool.and_eq_true, Bool.or_eq_true] at h
  refine ⟨h.1, fun hb => ?_⟩
  rcases h.2 with h2 | h2
  · rw [hb] at h2; cases h2
  · exact of_decide_eq_true h2

theorem BF.step {E : List Edg} {N src r j : Nat} {ts : Nat → Nat} {T : Tr} {e : Edg} (h : BF E N src r j ts T) (hE : EOK N E) (he : E[j]? = some e) :
    (relC e T = false ∧ BF E N src r (j + 1) ts T) ∨
    (relC e T = true ∧ BF E N src r (j + 1) (fun v => if v = e.b then r * E.length + j + 1 else ts v) (relE T e)) := by
  have hm : e ∈ E := List.mem_of_getElem? he
  have hjl : j < E.length := (List.getElem?_eq_some_iff.1 he).1
  obtain ⟨ha, hb, hk⟩ := hE e hm
  cases hc : relC e T with
  | false =>
    refine .inl ⟨rfl, h.ls, h.lt, h.ll, h.so, h.low, h.root, h.par, fun i e' hi ht => ⟨fun h1 h2 => ?_, fun h1 h2 => (h.done i e' hi ht).2 (by omega) h2⟩, fun v => by have := h.tm v; omega⟩
    by_cases hij : i = j
    · subst hij
      rw [he] at hi
      obtain rfl := Option.some.inj hi
      exact relC_no hc ht
    · exact (h.done i e' hi ht).1 (by omega) h2
  | true =>
    refine .inr ⟨rfl, ?_⟩
    obtain ⟨hta, htb⟩ := relC_yes hc
    rw [relE_yes hc]
    have hS : ∀ v, (T.sum.set e.b (T.sum.getD e.a 0 + e.w)).getD v 0 = if v = e.b then T.sum.getD e.a 0 + e.w else T.sum.getD v 0 := fun v => getD_set (by rw [h.ls]; exact hb)
    have hT : ∀ v, (T.there.set e.b true).getD v false = if v = e.b then true else T.there.getD v false := fun v => getD_set (by rw [h.lt]; exact hb)
    have hL : ∀ v, (T.last.set e.b e.k).getD v (-1) = if v = e.b then e.k else T.last.getD v (-1) := fun v => getD_set (by rw [h.ll]; exact hb)
    have hT1 : ∀ v, T.there.getD v false = true → (T.there.set e.b true).getD v false = true := fun v hv => by
      rw [hT]; split
      · rfl
      · exact hv
    refine ⟨by simp [h.ls], by simp [h.lt], by simp [h.ll], ⟨h.so.1, hT1 _ h.so.2.1, ?_⟩, ?_, ?_, ?_, ?_, ?_⟩
    · simp only [hS, hL]
      by_cases hs : src = e.b
      · rw [if_pos hs, if_pos hs]
        have h1 := htb (hs ▸ h.so.2.1)
        have h2 := h.so.2.2.1
        rw [hs] at h2
        exact ⟨by omega, .inl (by omega)⟩
      · rw [if_neg hs, if_neg hs]; exact h.so.2.2
    · intro q hq v hv ht
      simp only [hS]
      by_cases hvb : v = e.b
      · rw [if_pos hvb]
        have h1 := h.low q hq e.a ha hta
        have h2 := hq e hm
        rw [hvb]; omega
      · rw [if_neg hvb]
        simp only [hT, if_neg hvb] at ht
        exact h.low q hq v hv ht
    · intro v hv hl
      simp only [hL] at hl
      by_cases hvb : v = e.b
      · rw [if_pos hvb] at hl; omega
      · rw [if_neg hvb] at hl
        simp only [hT, if_neg hvb]
        exact h.root v hv hl
    · intro v hv hl
      simp only [hL] at hl
      by_cases hvb : v = e.b
      · subst hvb
        simp only [if_pos]
        refine ⟨by simp only [hT, if_pos], by omega, e, hm, by simp only [hL, if_pos], rfl, hT1 _ hta, ?_, ?_⟩
        · by_cases hab : e.a = e.b
          · rw [if_pos hab]; omega
          · rw [if_neg hab]
            rcases Nat.lt_or_ge (r * E.length + j) (ts e.a + E.length) with h1 | h1
            · omega
            · have := (h.done j e he hta).2 (Nat.le_refl _) h1
              have := htb this.1
              have := this
              unfold OKE at *
              omega
        · simp only [hS, if_pos]
          by_cases hab : e.a = e.b
          · left
            rw [if_pos hab]
            have := htb (hab ▸ hta)
            rw [hab] at this ⊢
            omega
          · right
            rw [if_neg hab, if_neg hab]
            have := h.tm e.a
            exact ⟨rfl, by omega⟩
      · rw [if_neg hvb] at hl
        obtain ⟨h1, h2, e', he', h3, h4, h5, h6, h7⟩ := h.par v hv hl
        simp only [if_neg hvb]
        refine ⟨hT1 _ h1, h2, e', he', by simp only [hL, if_neg hvb]; exact h3, h4, hT1 _ h5, ?_, ?_⟩
        · by_cases hab : e'.a = e.b
          · rw [if_pos hab]
            have := h.tm v
            omega
          · rw [if_neg hab]; exact h6
        · simp only [hS, if_neg hvb]
          by_cases hab : e'.a = e.b
          · rw [if_pos hab]
            have := htb (hab ▸ h5)
            rw [hab] at h7
            left
            rcases h7 with h7 | h7 <;> omega
          · rw [if_neg hab, if_neg hab]; exact h7
    · intro i e' hi ht
      have hil : i < E.length := (List.getElem?_eq_some_iff.1 hi).1
      have hup : e'.a ≠ e.b → OKE e' T → OKE e' ⟨T.sum.set e.b (T.sum.getD e.a 0 + e.w), T.there.set e.b true, T.last.set e.b e.k, e.b⟩ := by
        intro hne ho
        refine ⟨hT1 _ ho.1, ?_⟩
        simp only [hS, if_neg hne]
        split
        · rename_i hbb
          have := htb (hbb ▸ ho.1)
          have := ho.2
          rw [hbb] at this
          omega
        · exact ho.2
      by_cases hab : e'.a = e.b
      · simp only [if_pos hab]
        exact ⟨fun h1 h2 => by omega, fun h1 h2 => by omega⟩
      · simp only [if_neg hab]
        have ht' : T.there.getD e'.a false = true := by
          simp only [hT, if_neg hab] at ht; exact ht
        have hd := h.done i e' hi ht'
        refine ⟨fun h1 h2 => ?_, fun h1 h2 => hup hab (hd.2 (by omega) h2)⟩
        by_cases hij : i = j
        · subst hij
          rw [he] at hi
          obtain rfl := Option.some.inj hi
          refine ⟨by simp only [hT, if_pos], ?_⟩
          simp only [hS, if_pos, if_neg hab]
          omega
        · exact hup hab (hd.1 (by omega) h2)
    · intro v
      have := h.tm v
      show (if v = e.b then r * E.length + j + 1 else ts v) ≤ _
      split <;> omega

def Fix (E : List Edg) (T : Tr) : Prop := ∀ e ∈ E, T.there.getD e.a false = true → OKE e T

theorem BF.fold {E : List Edg} {N src r : Nat} (hE : EOK N E) : ∀ (suf pre : List Edg) (ts : Nat → Nat) (T : Tr), E = pre ++ suf → BF E N src r pre.length ts T →
    ∃ ts', BF E N src r E.length ts' (suf.foldl relE T) ∧ ((suf.foldl relE T = T ∧ (∀ e ∈ suf, relC e T = false)) ∨ (∃ v, v < N ∧ (suf.foldl relE T).ch = ((v : Nat) : Int) ∧ r * E.length + 1 ≤ ts' v))
  | [], pre, ts, T, hp, h => ⟨ts, by rw [hp, List.append_nil] at *; exact h, .inl ⟨rfl, fun e he => by cases he⟩⟩
  | e :: suf, pre, ts, T, hp, h => by
    have he : E[pre.length]? = some e := by rw [hp]; simp
    have hm : e ∈ E := List.mem_of_getElem? he
    have hp2 : E = (pre ++ [e]) ++ suf := by rw [hp]; simp
    have hl2 : (pre ++ [e]).length = pre.length + 1 := by simp
    rw [List.foldl_cons]
    rcases h.step hE he with ⟨hc, hB⟩ | ⟨hc, hB⟩
    · rw [relE_no hc]
      rw [← hl2] at hB
      obtain ⟨ts', hB', hr⟩ := BF.fold hE suf (pre ++ [e]) ts T hp2 hB
      refine ⟨ts', hB', ?_⟩
      rcases hr with ⟨h1, h2⟩ | h1
      · refine .inl ⟨h1, fun x hx => ?_⟩
        rcases List.mem_cons.1 hx with rfl | hx
        · exact hc
        · exact h2 x hx
      · exact .inr h1
    · have key : ∀ (suf pre : List Edg) (ts : Nat → Nat) (T : Tr) (v : Nat), v < N → T.ch = (v : Int) → r * E.length + 1 ≤ ts v → E = pre ++ suf → BF E N src r pre.length ts T →
          ∃ ts', BF E N src r E.length ts' (suf.foldl relE T) ∧ (∃ v, v < N ∧ (suf.foldl relE T).ch = ((v : Nat) : Int) ∧ r * E.length + 1 ≤ ts' v) := by
        intro suf
        induction suf with
        | nil => intro pre ts T v hv hch hts hp h; exact ⟨ts, by rw [hp, List.append_nil] at *; exact h, v, hv, hch, hts⟩
        | cons e suf ih =>
          intro pre ts T v hv hch hts hp h
          have he : E[pre.length]? = some e := by rw [hp]; simp
          have hm : e ∈ E := List.mem_of_getElem? he
          have hp2 : E = (pre ++ [e]) ++ suf := by rw [hp]; simp
          have hl2 : (pre ++ [e]).length = pre.length + 1 := by simp
          rw [List.foldl_cons]
          rcases h.step hE he with ⟨hc, hB⟩ | ⟨hc, hB⟩
          · rw [relE_no hc]
            rw [← hl2] at hB
            exact ih _ _ _ v hv hch hts hp2 hB
          · rw [← hl2] at hB
            refine ih _ _ _ e.b (hE e hm).2.1 (by rw [relE_yes hc]) ?_ hp2 hB
            simp only [if_pos]; omega
      rw [← hl2] at hB
      obtain ⟨ts', hB', hr⟩ := key suf _ _ _ e.b (hE e hm).2.1 (by rw [relE_yes hc]) (by simp only [if_pos]; omega) hp2 hB
      exact ⟨ts', hB', .inr hr⟩

theorem BF.next {E : List Edg} {N src r : Nat} {ts : Nat → Nat} {T : Tr} (h : BF E N src r E.length ts T) : BF E N src (r + 1) 0 ts T := by
  refine ⟨h.ls, h.lt, h.ll, h.so, h.low, h.root, h.par, fun i e hi ht => ⟨fun h1 _ => by omega, fun _ h2 => (h.done i e hi ht).1 (List.getElem?_eq_some_iff.1 hi).1 ?_⟩, fun v => ?_⟩
  · rw [Nat.add_mul] at h2; omega
  · have := h.tm v
    rw [Nat.add_mul]; omega

theorem BF.setCh {E : List Edg} {N src r j : Nat} {ts : Nat → Nat} {T : Tr} (h : BF E N src r j ts T) (c : Int) : BF E N src r j ts { T with ch := c } :=
  ⟨h.ls, h.lt, h.ll, h.so, h.low, h.root, h.par, h.done, h.tm⟩

theorem BF.start {E : List Edg} {n src : Nat} (hs : src ≤ n) : BF E (n + 1) src 0 0 (fun _ => 0) (startF n src) := by
  have hT : ∀ v, ((List.replicate (n + 1) false).set src true).getD v false = true → v = src := by
    intro v hv
    rw [getD_set (by simp; omega)] at hv
    split at hv
    · assumption
    · rw [List.getD_eq_getElem?_getD, List.getElem?_replicate] at hv
      split at hv <;> simp at hv
  have hlast : ∀ v, (List.replicate (n + 1) (-1 : Int)).getD v (-1) = -1 := by
    intro v
    rw [List.getD_eq_getElem?_getD, List.getElem?_replicate]
    split <;> rfl
  have h0 : ∀ v, (List.replicate (n + 1) (0 : Int)).getD v 0 = 0 := by
    intro v
    rw [List.getD_eq_getElem?_getD, List.getElem?_replicate]
    split <;> rfl
  refine ⟨by simp [startF], by simp [startF], by simp [startF], ⟨by omega, ?_, ?_, .inr (hlast src)⟩, ?_, ?_, ?_, ?_, ?_⟩
  · simp only [startF]
    rw [getD_set (by simp; omega), if_pos rfl]
  · simp only [startF, h0]; exact Int.le_refl _
  · intro q _ v _ ht
    have := hT v ht
    simp only [startF, h0]
    rw [this]; omega
  · intro v _ _
    exact ⟨hT v, rfl⟩
  · intro v _ h
    exact absurd (hlast v) h
  · intro i e hi ht
    have := (List.getElem?_eq_some_iff.1 hi).1
    exact ⟨fun h => by omega, fun _ h => by omega⟩
  · intro v; exact Nat.zero_le _

theorem BF.rounds {n : Nat} {rev : Nat → Bool} {arcs : List Lnk} {E : List Edg} {N src : Nat} (hEd : E = edgs n rev 0 arcs) (hE : EOK N E) : ∀ (k r : Nat) (ts : Nat → Nat) (T : Tr), BF E N src r 0 ts T →
    ∃ ts' r', BF E N src r' 0 ts' (roundsF n rev arcs k T).1 ∧ (((roundsF n rev arcs k T).2 = -1 ∧ Fix E (roundsF n rev arcs k T).1) ∨
      (∃ v, v < N ∧ (roundsF n rev arcs k T).2 = ((v : Nat) : Int) ∧ (r + k) * E.length + 1 ≤ ts' v)) := by
  have pass : ∀ (r : Nat) (ts : Nat → Nat) (T : Tr), BF E N src r 0 ts T → ∃ ts', BF E N src (r + 1) 0 ts' (passF n rev 0 arcs { T with ch := -1 }) ∧
      (((passF n rev 0 arcs { T with ch := -1 }).ch = -1 ∧ Fix E (passF n rev 0 arcs { T with ch := -1 })) ∨ (∃ v, v < N ∧ (passF n rev 0 arcs { T with ch := -1 }).ch = ((v : Nat) : Int) ∧ r * E.length + 1 ≤ ts' v)) := by
    intro r ts T h
    rw [passF_edgs, ← hEd]
    obtain ⟨ts', hB, hr⟩ := BF.fold hE E [] ts _ rfl (h.setCh (-1))
    refine ⟨ts', hB.next, ?_⟩
    rcases hr with ⟨h1, h2⟩ | h1
    · rw [h1]
      exact .inl ⟨rfl, fun e he ht => relC_no (h2 e he) ht⟩
    · exact .inr h1
  intro k
  induction k with
  | zero =>
    intro r ts T h
    obtain ⟨ts', hB, hr⟩ := pass r ts T h
    exact ⟨ts', r + 1, hB, hr⟩
  | succ k ih =>
    intro r ts T h
    obtain ⟨ts', hB, hr⟩ := pass r ts T h
    by_cases hd : (passF n rev 0 arcs { T with ch := -1 }).ch = -1
    · rw [roundsF_done hd]
      rcases hr with hr | ⟨v, _, hv, _⟩
      · exact ⟨ts', r + 1, hB, .inl ⟨rfl, hr.2⟩⟩
      · rw [hd] at hv; omega
    · rw [roundsF_next hd]
      obtain ⟨ts2, r2, hB2, hr2⟩ := ih (r + 1) ts' _ hB
      refine ⟨ts2, r2, hB2, ?_⟩
      rw [show r + (k + 1) = r + 1 + k from by omega]
      exact hr2

theorem pigeon : ∀ (N : Nat) (f : Nat → Nat), (∀ i, i ≤ N → f i < N) → ∃ i j, i < j ∧ j ≤ N ∧ f i = f j
  | 0, f, h => by have := h 0 (Nat.le_refl _); omega
  | N + 1, f, h => by
    by_cases hx : ∃ i, i < N + 1 ∧ f i = f (N + 1)
    · obtain ⟨i, hi, he⟩ := hx
      exact ⟨i, N + 1, hi, Nat.le_refl _, he⟩
    · have hne : ∀ i, i < N + 1 → f i ≠ f (N + 1) := fun i hi he => hx ⟨i, hi, he⟩
      obtain ⟨i, j, hij, hj, he⟩ := pigeon N (fun i => if f i = N then f (N + 1) else f i) (fun i hi => by
        show (if f i = N then f (N + 1) else f i) < N
        have h1 := h i (by omega)
        have h2 := h (N + 1) (Nat.le_refl _)
        have h3 := hne i (by omega)
        split <;> omega)
      refine ⟨i, j, hij, by omega, ?_⟩
      have h1 := hne i (by omega)
      have h2 := hne j (by omega)
      have he : (if f i = N then f (N + 1) else f i) = (if f j = N then f (N + 1) else f j) := he
      split at he <;> split at he <;> omega

def backF (G : Int → Edg) (T : Tr) (v : Nat) : Nat := (G (T.last.getD v (-1))).a
def backN (G : Int → Edg) (T : Tr) (v : Nat) : Nat → Nat
  | 0 => v
  | j + 1 => backF G T (backN G T v j)

theorem BF.back {E : List Edg} {N src r j : Nat} {ts : Nat → Nat} {T : Tr} {G : Int → Edg} (h : BF E N src r j ts T) (hG : ∀ e ∈ E, G e.k = e) {v : Nat} (hv : v < N) (hl : T.last.getD v (-1) ≠ -1) :
    G (T.last.getD v (-1)) ∈ E ∧ (G (T.last.getD v (-1))).k = T.last.getD v (-1) ∧ (G (T.last.getD v (-1))).b = v ∧ T.there.getD (backF G T v) false = true ∧ ts v ≤ ts (backF G T v) + E.length ∧
      (T.sum.getD (backF G T v) 0 + (G (T.last.getD v (-1))).w < T.sum.getD v 0 ∨ (T.sum.getD (backF G T v) 0 + (G (T.last.getD v (-1))).w = T.sum.getD v 0 ∧ ts (backF G T v) < ts v)) := by
  obtain ⟨h1, h2, e, he, h3, h4, h5, h6, h7⟩ := h.par v hv hl
  unfold backF
  rw [← h3, hG e he]
  exact ⟨he, rfl, h4, h5, h6, h7⟩

theorem BF.last_ne {E : List Edg} {N src r j : Nat} {ts : Nat → Nat} {T : Tr} (h : BF E N src r j ts T) {v : Nat} (hv : v < N) (ht : 1 ≤ ts v) : T.last.getD v (-1) ≠ -1 := fun hl => by
  have := (h.root v hv hl).2
  omega

theorem BF.chain {E : List Edg} {N src r j : Nat} {ts : Nat → Nat} {T : Tr} {G : Int → Edg} (h : BF E N src r j ts T) (hE : EOK N E) (hG : ∀ e ∈ E, G e.k = e) {v R : Nat} (hv : v < N) (ht : R * E.length + 1 ≤ ts v) :
    ∀ m, m ≤ R → backN G T v m < N ∧ (R - m) * E.length + 1 ≤ ts (backN G T v m) ∧ T.last.getD (backN G T v m) (-1) ≠ -1 := by
  intro m
  induction m with
  | zero => intro _; exact ⟨hv, ht, h.last_ne hv (by show 1 ≤ ts v; omega)⟩
  | succ m ih =>
    intro hm
    obtain ⟨h1, h2, h3⟩ := ih (by omega)
    obtain ⟨g1, g2, g3, g4, g5, g6⟩ := h.back hG h1 h3
    have hn : backN G T v (m + 1) < N := (hE _ g1).1
    have e : (R - m) * E.length = (R - (m + 1)) * E.length + E.length := by
      rw [show R - m = (R - (m + 1)) + 1 from by omega, Nat.add_mul]; omega
    have ht2 : (R - (m + 1)) * E.length + 1 ≤ ts (backN G T v (m + 1)) := by
      show _ ≤ ts (backF G T (backN G T v m))
      omega
    exact ⟨hn, ht2, h.last_ne hn (by omega)⟩

theorem BF.fall {E : List Edg} {N src r j : Nat} {ts : Nat → Nat} {T : Tr} {G : Int → Edg} (h : BF E N src r j ts T) (hG : ∀ e ∈ E, G e.k = e) {v i m : Nat} {Q : Nat → Int} (hall : ∀ k, i ≤ k → k < i + m → backN G T v k < N ∧ T.last.getD (backN G T v k) (-1) ≠ -1)
    (hq : ∀ k, i ≤ k → k < i + m → Q k ≤ Q (k + 1) + (G (T.last.getD (backN G T v k) (-1))).w) (hm : 1 ≤ m) :
    T.sum.getD (backN G T v (i + m)) 0 - Q (i + m) < T.sum.getD (backN G T v i) 0 - Q i ∨
    (T.sum.getD (backN G T v (i + m)) 0 - Q (i + m) = T.sum.getD (backN G T v i) 0 - Q i ∧ ts (backN G T v (i + m)) < ts (backN G T v i)) := by
  induction m with
  | zero => omega
  | succ m ih =>
    obtain ⟨h1, h2⟩ := hall (i + m) (by omega) (by omega)
    obtain ⟨g1, g2, g3, g4, g5, g6⟩ := h.back hG h1 h2
    have hqq := hq (i + m) (by omega) (by omega)
    have e : backN G T v (i + (m + 1)) = backF G T (backN G T v (i + m)) := rfl
    rw [e]
    have e2 : Q (i + (m + 1)) = Q (i + m + 1) := rfl
    rw [e2]
    rcases Nat.eq_zero_or_pos m with rfl | hm
    · simp only [Nat.add_zero] at *
      rcases g6 with g6 | g6 <;> omega
    · have := ih (fun k hk1 hk2 => hall k hk1 (by omega)) (fun k hk1 hk2 => hq k hk1 (by omega)) hm
      rcases g6 with g6 | g6 <;> rcases this with this | this <;> omega

def Pot (q : Nat → Int) (E : List Edg) : Prop := ∀ e ∈ E, q e.b ≤ q e.a + e.w

theorem BF.nopot {E : List Edg} {N src r j : Nat} {ts : Nat → Nat} {T : Tr} {G : Int → Edg} (h : BF E N src r j ts T) (hE : EOK N E) (hG : ∀ e ∈ E, G e.k = e) {v R : Nat} (hv : v < N) (ht : R * E.length + 1 ≤ ts v) (hR : N ≤ R)
    {q : Nat → Int} (hq : Pot q E) : False := by
  have hc := h.chain hE hG hv ht
  obtain ⟨i, k, hik, hk, he⟩ := pigeon N (backN G T v) (fun i hi => (hc i (by omega)).1)
  have := h.fall hG (v := v) (i := i) (m := k - i) (Q := fun x => q (backN G T v x)) (fun x hx1 hx2 => ⟨(hc x (by omega)).1, (hc x (by omega)).2.2⟩) (fun x hx1 hx2 => by
    obtain ⟨g1, g2, g3, g4, g5, g6⟩ := h.back hG (hc x (by omega)).1 (hc x (by omega)).2.2
    have := hq _ g1
    rw [g3] at this
    exact this) (by omega)
  rw [show i + (k - i) = k from by omega, he] at this
  omega

end Proofs
end Go

/-
  Plain lemmas, part 6: numbers that no arc contradicts, and what follows for relaxing. Conditions: none; definitions and plain lemmas.
-/
namespace Go
namespace Proofs

def keyE (n : Nat) (arcs : List Lnk) (k : Int) : Edg := match arcs[k.toNat / 2]? with
  | some l => if k.toNat % 2 = 0 then ⟨k, plc n l.f, plc n l.t, l.m⟩ else ⟨k, plc n l.t, plc n l.f, -l.m⟩
  | none => ⟨k, 0, 0, 0⟩

theorem edgs_mem {n : Nat} {rev : Nat → Bool} {e : Edg} : ∀ {xs : List Lnk} {i : Nat}, e ∈ edgs n rev i xs ↔
    ∃ j l, xs[j]? = some l ∧ (e = ⟨2 * ((i + j : Nat) : Int), plc n l.f, plc n l.t, l.m⟩ ∨ (rev (i + j) = true ∧ e = ⟨2 * ((i + j : Nat) : Int) + 1, plc n l.t, plc n l.f, -l.m⟩))
  | [], i => by simp [edgs]
  | x :: xs, i => by
    simp only [edgs, List.mem_cons, List.mem_append]
    rw [edgs_mem (xs := xs) (i := i + 1)]
    constructor
    · rintro (h | h | ⟨j, l, hj, h⟩)
      · exact ⟨0, x, rfl, .inl h⟩
      · cases hr : rev i with
        | false => rw [hr] at h; simp at h
        | true =>
          rw [hr] at h
          simp at h
          exact ⟨0, x, rfl, .inr ⟨hr, h⟩⟩
      · refine ⟨j + 1, l, by simpa using hj, ?_⟩
        rw [show i + (j + 1) = i + 1 + j from by omega]
        exact h
    · rintro ⟨j, l, hj, h⟩
      cases j with
      | zero =>
        simp at hj
        subst hj
        rcases h with h | ⟨hr, h⟩
        · exact .inl h
        · refine .inr (.inl ?_)
          have hr : rev i = true := hr
          rw [hr]; simp; exact h
      | succ j =>
        refine .inr (.inr ⟨j, l, by simpa using hj, ?_⟩)
        rw [show i + 1 + j = i + (j + 1) from by omega]
        exact h

theorem edgs_key {n : Nat} {rev : Nat → Bool} {arcs : List Lnk} : ∀ e ∈ edgs n rev 0 arcs, keyE n arcs e.k = e := by
  intro e he
  obtain ⟨j, l, hj, h | ⟨_, h⟩⟩ := edgs_mem.1 he
  · subst h
    unfold keyE
    have h1 : (2 * ((0 + j : Nat) : Int)).toNat = 2 * j := by omega
    simp only [h1]
    rw [show 2 * j / 2 = j from by omega, hj]
    simp only [show 2 * j % 2 = 0 from by omega, if_true]
  · subst h
    unfold keyE
    have h1 : (2 * ((0 + j : Nat) : Int) + 1).toNat = 2 * j + 1 := by omega
    simp only [h1]
    rw [show (2 * j + 1) / 2 = j from by omega, hj]
    simp only [show (2 * j + 1) % 2 = 1 from by omega]
    rfl

theorem edgs_ok {n : Nat} {rev : Nat → Bool} {arcs : List Lnk} (h : ∀ l ∈ arcs, ArcOK n l) : EOK (n + 1) (edgs n rev 0 arcs) := by
  intro e he
  obtain ⟨j, l, hj, h1⟩ := edgs_mem.1 he
  obtain ⟨h2, h3, h4⟩ := h l (List.mem_of_getElem? hj)
  have := plc_le h2.2
  have := plc_le h3.2
  rcases h1 with h1 | ⟨_, h1⟩ <;> subst h1 <;> refine ⟨?_, ?_, ?_⟩ <;> simp only <;> omega

def PotL (n : Nat) (q : Nat → Int) (arcs : List Lnk) : Prop := ∀ l ∈ arcs, q (plc n l.t) ≤ q (plc n l.f) + l.m

abbrev noR : Nat → Bool := fun _ => false

theorem potL_iff {n : Nat} {q : Nat → Int} {arcs : List Lnk} : PotL n q arcs ↔ Pot q (edgs n noR 0 arcs) := by
  constructor
  · intro h e he
    obtain ⟨j, l, hj, h1 | ⟨h1, _⟩⟩ := edgs_mem.1 he
    · subst h1
      exact h l (List.mem_of_getElem? hj)
    · cases h1
  · intro h l hl
    obtain ⟨j, hj⟩ := List.getElem?_of_mem hl
    exact h _ (edgs_mem.2 ⟨j, l, hj, .inl rfl⟩)

theorem rounds_pot {n : Nat} {rev : Nat → Bool} {arcs : List Lnk} {q : Nat → Int} {src k : Nat} (hok : ∀ l ∈ arcs, ArcOK n l) (hq : Pot q (edgs n rev 0 arcs)) (hs : src ≤ n) (hk : n + 1 ≤ k) :
    (roundsF n rev arcs k (startF n src)).2 = -1 ∧ Fix (edgs n rev 0 arcs) (roundsF n rev arcs k (startF n src)).1 ∧ ∃ ts r, BF (edgs n rev 0 arcs) (n + 1) src r 0 ts (roundsF n rev arcs k (startF n src)).1 := by
  obtain ⟨ts, r, hB, hr⟩ := BF.rounds (n := n) (rev := rev) (arcs := arcs) rfl (edgs_ok (rev := rev) hok) k 0 _ _ (BF.start hs)
  rcases hr with hr | ⟨v, hv, _, ht⟩
  · exact ⟨hr.1, hr.2, ts, r, hB⟩
  · rw [Nat.zero_add] at ht
    exact (hB.nopot (edgs_ok hok) edgs_key hv ht hk hq).elim

theorem rounds_more {n : Nat} {rev : Nat → Bool} {arcs : List Lnk} : ∀ {k : Nat} {T : Tr}, (roundsF n rev arcs k T).2 = -1 → roundsF n rev arcs (k + 1) T = roundsF n rev arcs k T
  | 0, T, h => by
    have h : (passF n rev 0 arcs { T with ch := -1 }).ch = -1 := h
    rw [roundsF_done h, roundsF_done h]
  | k + 1, T, h => by
    by_cases hd : (passF n rev 0 arcs { T with ch := -1 }).ch = -1
    · rw [roundsF_done hd, roundsF_done hd]
    · rw [roundsF_next hd] at h
      rw [roundsF_next hd, roundsF_next (k := k) hd]
      exact rounds_more h

theorem rounds_fix {n : Nat} {rev : Nat → Bool} {arcs : List Lnk} {src k : Nat} (hok : ∀ l ∈ arcs, ArcOK n l) (hs : src ≤ n) (h : (roundsF n rev arcs k (startF n src)).2 = -1) :
    Fix (edgs n rev 0 arcs) (roundsF n rev arcs k (startF n src)).1 ∧ ∃ ts r, BF (edgs n rev 0 arcs) (n + 1) src r 0 ts (roundsF n rev arcs k (startF n src)).1 := by
  obtain ⟨ts, r, hB, hr⟩ := BF.rounds (n := n) (rev := rev) (arcs := arcs) rfl (edgs_ok (rev := rev) hok) k 0 _ _ (BF.start hs)
  rcases hr with hr | ⟨v, hv, he, ht⟩
  · exact ⟨hr.2, ts, r, hB⟩
  · rw [h] at he; omega

theorem fix_pot {E : List Edg} {T : Tr} (hf : Fix E T) (hall : ∀ e ∈ E, T.there.getD e.a false = true) : Pot (fun v => T.sum.getD v 0) E := fun e he => (hf e he (hall e he)).2

end Proofs
end Go

/-
  Plain lemmas, part 7: relaxing as the reference implementation does it, in one list, with a far number for what is not reached; it comes to the same. Conditions: none; definitions and plain lemmas.
-/
namespace Go
namespace Proofs

abbrev farI : Int := 1099511627776

def relO (l : Lnk) (o : List Int × Bool) : List Int × Bool :=
  if decide (o.1.getD (l.f + 1).toNat 0 < farI) && decide (o.1.getD (l.f + 1).toNat 0 + l.m < o.1.getD (l.t + 1).toNat 0) then (o.1.set (l.t + 1).toNat (o.1.getD (l.f + 1).toNat 0 + l.m), true) else o

def passO (arcs : List Lnk) (out : List Int) : List Int × Bool := arcs.foldl (fun o l => relO l o) (out, false)

def roundsO (arcs : List Lnk) : Nat → List Int → Option (List Int)
  | 0, _ => none
  | k + 1, out => if (passO arcs out).2 then roundsO arcs k (passO arcs out).1 else some (passO arcs out).1

def startO (n : Nat) (a : Int) : List Int := (List.replicate (n + 1) farI).set (a + 1).toNat 0

def fromF (n : Nat) (arcs : List Lnk) (a : Int) : Option (List Int) := roundsO arcs (n + 2) (startO n a)

def ixO (n : Nat) (v : Nat) : Nat := if v = n then 0 else v + 1

theorem ixO_plc {n : Nat} {p : Int} (h : -1 ≤ p ∧ p < n) : ixO n (plc n p) = (p + 1).toNat := by
  unfold ixO plc
  by_cases hp : p < 0
  · rw [if_pos hp, if_pos rfl]; omega
  · rw [if_neg hp, if_neg (by omega)]; omega

theorem ixO_inj {n v w : Nat} (hv : v ≤ n) (hw : w ≤ n) (h : ixO n v = ixO n w) : v = w := by
  unfold ixO at h
  split at h <;> split at h <;> omega

theorem ixO_lt {n v : Nat} (hv : v ≤ n) : ixO n v < n + 1 := by
  unfold ixO; split <;> omega

def oV (T : Tr) (v : Nat) : Int := if T.there.getD v false = true then T.sum.getD v 0 else farI

structure RelOT (n : Nat) (out : List Int) (T : Tr) : Prop where
  len : out.length = n + 1
  val : ∀ v, v ≤ n → out.getD (ixO n v) 0 = oV T v

theorem RelOT.relax {n : Nat} {B : Int} {out : List Int} {c : Bool} {T : Tr} {l : Lnk} {k : Int} (h : RelOT n out T) (hc : c = true ↔ T.ch ≠ -1) (hl : ArcOK n l) (hT : Tok n B T) (hB : B + 33554432 < farI) :
    RelOT n (relO l (out, c)).1 (relE T ⟨k, plc n l.f, plc n l.t, l.m⟩) ∧ ((relO l (out, c)).2 = true ↔ (relE T ⟨k, plc n l.f, plc n l.t, l.m⟩).ch ≠ -1) := by
  obtain ⟨h1, h2, h3⟩ := hl
  have ha := plc_le h1.2
  have hb := plc_le h2.2
  have e1 : out.getD (l.f + 1).toNat 0 = oV T (plc n l.f) := by rw [← ixO_plc h1]; exact h.val _ ha
  have e2 : out.getD (l.t + 1).toNat 0 = oV T (plc n l.t) := by rw [← ixO_plc h2]; exact h.val _ hb
  have b1 := hT.bd _ (getD_mem (xs := T.sum) (a := plc n l.f) (by rw [hT.ls]; omega))
  have b2 := hT.bd _ (getD_mem (xs := T.sum) (a := plc n l.t) (by rw [hT.ls]; omega))
  have ec : (decide (out.getD (l.f + 1).toNat 0 < farI) && decide (out.getD (l.f + 1).toNat 0 + l.m < out.getD (l.t + 1).toNat 0)) = relC ⟨k, plc n l.f, plc n l.t, l.m⟩ T := by
    rw [e1, e2]
    unfold relC oV
    cases ht1 : T.there.getD (plc n l.f) false
    · simp
    · simp only [if_true, Bool.true_and]
      rw [decide_eq_true (p := T.sum.getD (plc n l.f) 0 < farI) (by omega), Bool.true_and]
      cases ht2 : T.there.getD (plc n l.t) false
      · simp only [Bool.false_eq_true, if_false, Bool.not_false, Bool.true_or, decide_eq_true_eq]
        omega
      · simp
  unfold relO
  cases hr : relC ⟨k, plc n l.f, plc n l.t, l.m⟩ T with
  | false =>
    rw [relE_no hr]
    simp only [ec, hr]
    exact ⟨h, hc⟩
  | true =>
    rw [relE_yes hr]
    simp only [ec, hr, if_true]
    refine ⟨⟨by simp [h.len], fun v hv => ?_⟩, by simp⟩
    have hlt : (l.t + 1).toNat < out.length := by rw [h.len, ← ixO_plc h2]; exact ixO_lt hb
    rw [getD_set hlt]
    unfold oV
    simp only
    rw [getD_set (by rw [hT.lt]; omega), getD_set (by rw [hT.ls]; omega)]
    by_cases hvb : v = plc n l.t
    · subst hvb
      rw [if_pos (ixO_plc h2), if_pos rfl, if_pos rfl, if_pos rfl, e1]
      have := (relC_yes hr).1
      have this : T.there.getD (plc n l.f) false = true := this
      unfold oV
      rw [if_pos this]
    · rw [if_neg (fun he => hvb (ixO_inj hv hb (he.trans (ixO_plc h2).symm))), if_neg hvb, if_neg hvb]
      exact h.val v hv

theorem RelOT.pass {n : Nat} : ∀ {arcs : List Lnk} {i : Nat} {B : Int} {out : List Int} {c : Bool} {T : Tr}, RelOT n out T → (c = true ↔ T.ch ≠ -1) → (∀ l ∈ arcs, ArcOK n l) → Tok n B T → B + 67108864 * (arcs.length : Int) < farI →
    RelOT n (arcs.foldl (fun o l => relO l o) (out, c)).1 (passF n noR i arcs T) ∧ ((arcs.foldl (fun o l => relO l o) (out, c)).2 = true ↔ (passF n noR i arcs T).ch ≠ -1)
  | [], _, _, _, _, _, h, hc, _, _, _ => ⟨h, hc⟩
  | l :: r, i, B, out, c, T, h, hc, hok, hT, hB => by
    simp only [List.length_cons] at hB
    have hl := hok l (List.mem_cons_self ..)
    have := h.relax (k := 2 * i) hc hl hT (by omega)
    simp only [List.foldl_cons, passF]
    have e : arcF n noR i l T = relE T ⟨2 * i, plc n l.f, plc n l.t, l.m⟩ := rfl
    rw [e]
    have hT2 : Tok n (B + 67108864) (relE T ⟨2 * i, plc n l.f, plc n l.t, l.m⟩) := by rw [← e]; exact hT.arc hl
    exact RelOT.pass (i := i + 1) this.1 this.2 (fun x hx => hok x (List.mem_cons_of_mem _ hx)) hT2 (by omega)

theorem RelOT.rounds {n : Nat} {arcs : List Lnk} (hok : ∀ l ∈ arcs, ArcOK n l) : ∀ (k : Nat) {B : Int} {out : List Int} {T : Tr}, RelOT n out T → Tok n B T → B + ((k + 1 : Nat) : Int) * (67108864 * (arcs.length : Int)) < farI →
    ((roundsF n noR arcs k T).2 = -1 → ∃ o, roundsO arcs (k + 1) out = some o ∧ RelOT n o (roundsF n noR arcs k T).1) ∧ ((roundsF n noR arcs k T).2 ≠ -1 → roundsO arcs (k + 1) out = none)
  | 0, B, out, T, h, hT, hB => by
    have hB' : B + 67108864 * (arcs.length : Int) < farI := by simpa using hB
    have := RelOT.pass (arcs := arcs) (i := 0) (c := false) (T := { T with ch := -1 }) ⟨h.len, h.val⟩ (by simp) hok (hT.ch (-1)) hB'
    unfold roundsO passO
    have e : roundsF n noR arcs 0 T = (passF n noR 0 arcs { T with ch := -1 }, (passF n noR 0 arcs { T with ch := -1 }).ch) := rfl
    rw [e]
    refine ⟨fun hc => ?_, fun hc => ?_⟩
    · rw [if_neg (fun hx => this.2.1 hx hc)]
      exact ⟨_, rfl, this.1⟩
    · rw [if_pos (this.2.2 hc)]; rfl
  | k + 1, B, out, T, h, hT, hB => by
    have hz : ((k + 1 + 1 : Nat) : Int) * (67108864 * (arcs.length : Int)) = 67108864 * (arcs.length : Int) + ((k + 1 : Nat) : Int) * (67108864 * (arcs.length : Int)) := by
      rw [show ((k + 1 + 1 : Nat) : Int) = 1 + ((k + 1 : Nat) : Int) by omega, Int.add_mul, Int.one_mul]
    have hp : 0 ≤ ((k + 1 : Nat) : Int) * (67108864 * (arcs.length : Int)) := Int.mul_nonneg (by omega) (by omega)
    have hB' : B + 67108864 * (arcs.length : Int) < farI := by rw [hz] at hB; omega
    have := RelOT.pass (arcs := arcs) (i := 0) (c := false) (T := { T with ch := -1 }) ⟨h.len, h.val⟩ (by simp) hok (hT.ch (-1)) hB'
    rw [roundsO, passO]
    by_cases hc : (passF n noR 0 arcs { T with ch := -1 }).ch = -1
    · rw [roundsF_done hc, if_neg (fun hx => this.2.1 hx hc)]
      exact ⟨fun _ => ⟨_, rfl, this.1⟩, fun h => absurd rfl h⟩
    · rw [roundsF_next hc, if_pos (this.2.2 hc)]
      exact RelOT.rounds hok k this.1 (Tok.pass hok (hT.ch (-1))) (by rw [hz] at hB; omega)

theorem RelOT.start {n : Nat} {a : Int} (ha : -1 ≤ a ∧ a < n) : RelOT n (startO n a) (startF n (plc n a)) := by
  have hle := plc_le ha.2
  refine ⟨by simp [startO], fun v hv => ?_⟩
  unfold startO oV startF
  simp only
  have hx : (a + 1).toNat < n + 1 := by omega
  rw [getD_set (by rw [List.length_replicate]; exact hx), getD_set (by rw [List.length_replicate]; omega)]
  by_cases hva : v = plc n a
  · subst hva
    rw [if_pos (ixO_plc ha), if_pos rfl, if_pos rfl]
    rw [List.getD_eq_getElem?_getD, List.getElem?_replicate]
    split <;> rfl
  · rw [if_neg (fun he => hva (ixO_inj hv hle (he.trans (ixO_plc ha).symm))), if_neg hva]
    have e1 : (List.replicate (n + 1) farI).getD (ixO n v) 0 = farI := by
      rw [List.getD_eq_getElem?_getD, List.getElem?_replicate, if_pos (ixO_lt hv)]; rfl
    have e2 : (List.replicate (n + 1) false).getD v false = false := by
      rw [List.getD_eq_getElem?_getD, List.getElem?_replicate, if_pos (by omega)]; rfl
    rw [e1, e2]; rfl

theorem fromF_some {n : Nat} {arcs : List Lnk} {a : Int} (hok : ∀ l ∈ arcs, ArcOK n l) (ha : -1 ≤ a ∧ a < n) (hB : ((n + 2 : Nat) : Int) * (67108864 * (arcs.length : Int)) < farI) :
    ((roundsF n noR arcs (n + 1) (startF n (plc n a))).2 = -1 → ∃ o, fromF n arcs a = some o ∧ RelOT n o (roundsF n noR arcs (n + 1) (startF n (plc n a))).1) ∧ ((roundsF n noR arcs (n + 1) (startF n (plc n a))).2 ≠ -1 → fromF n arcs a = none) :=
  RelOT.rounds hok (n + 1) (RelOT.start ha) (Tok.start n _) (by rw [Int.zero_add]; exact hB)

end Proofs
end Go

namespace Go.Proofs
open Go.Sx

theorem allF_len (bs : List (Int × Int)) (ls : List Lnk) : (allF bs ls).length = 2 * bs.length + ls.length := by
  rw [allF, List.length_append, boxLinks_length]

theorem refAll_t (bs : List (Int × Int)) (ls : List Lnk) (hb : bs.length ≤ 1000) (hB : BoxB bs) (hl : ls.length ≤ 100000) :
    Triple Tryz.prog 210 [sysA bs.length ls.length] (sysH bs ls) 2 (.c (.s 2 0 (allF bs ls).length 4)) [(2, true, .arr (aLink (allF bs ls)))] := by
  refine triple_of tB_ok Tryz.func210 rfl Tryz.call210 rfl ?_
  intro ρ w hH
  conv=>whnf
  refine call_step (refbase_t bs ls hb hB) rfl rfl ?_
  conv=>whnf
  refine ⟨?_, ?_, ?_⟩
  iterate 2 · repeat' (first | exact trivial | exact rfl | refine And.intro ?_ ?_ | ((conv=>whnf); first | exact trivial | exact rfl | refine And.intro ?_ ?_ | omega))
  conv=>whnf
  refine app_step tB_ok (aLink (boxLinks 0 bs)) ls (fun _ => rfl) rfl rfl rfl rfl ?_
  conv=>whnf
  have hbl := boxLinks_length bs 0
  refine ⟨⟨rfl, rfl, Nat.le_refl _, by rw [Nat.zero_add]; exact Nat.le_refl _, by show ((boxLinks 0 bs).length + ls.length) * 33 ≤ _; omega⟩, ?_⟩
  conv=>whnf
  have e : (aLink (List.take (boxLinks 0 bs).length (boxLinks 0 bs) ++ List.take ls.length (List.drop 0 ls))) = aLink (allF bs ls) := congrArg aLink appAll
  repeat' (first | exact trivial | exact rfl | refine And.intro ?_ ?_ | ((conv=>whnf); first | exact trivial | exact rfl | refine And.intro ?_ ?_ | omega))
  all_goals first | exact e | (show _ = (allF bs ls).length; rw [allF, List.length_append])

end Go.Proofs

/-
  Plain lemmas, part 8: sizes in the reference implementation's relaxing. Conditions: none; definitions and plain lemmas.
-/
namespace Go
namespace Proofs

structure OkO (n : Nat) (B : Int) (o : List Int) : Prop where
  len : o.length = n + 1
  bd : ∀ x ∈ o, -B ≤ x ∧ x ≤ farI

theorem OkO.mono {n : Nat} {B C : Int} {o : List Int} (h : OkO n B o) (hc : B ≤ C) : OkO n C o := ⟨h.len, fun x hx => by have := h.bd x hx; omega⟩

theorem OkO.rel {n : Nat} {B : Int} {o : List Int × Bool} {l : Lnk} (h : OkO n B o.1) (hl : ArcOK n l) : OkO n (B + 33554432) (relO l o).1 := by
  obtain ⟨h1, h2, h3⟩ := hl
  unfold relO
  split
  · rename_i hc
    simp only [Bool.and_eq_true, decide_eq_true_eq] at hc
    refine ⟨by simp [h.len], fun x hx => ?_⟩
    have ha : (l.f + 1).toNat < o.1.length := by rw [h.len]; omega
    have hb : (l.t + 1).toNat < o.1.length := by rw [h.len]; omega
    have b1 := h.bd _ (getD_mem ha)
    have b2 := h.bd _ (getD_mem hb)
    rcases List.mem_or_eq_of_mem_set hx with hx | hx
    · have := h.bd x hx; omega
    · omega
  · exact h.mono (by omega)

theorem OkO.fold {n : Nat} : ∀ {xs : List Lnk} {B : Int} {o : List Int × Bool}, (∀ l ∈ xs, ArcOK n l) → OkO n B o.1 → OkO n (B + 33554432 * (xs.length : Int)) (xs.foldl (fun o l => relO l o) o).1
  | [], B, o, _, h => by simpa using h
  | x :: xs, B, o, hl, h => by
    simp only [List.foldl_cons, List.length_cons]
    have := OkO.fold (xs := xs) (fun l hm => hl l (List.mem_cons_of_mem _ hm)) (h.rel (hl x (List.mem_cons_self ..)))
    exact this.mono (by omega)

theorem passO_snoc {xs : List Lnk} {i : Nat} {o : List Int × Bool} (h : i < xs.length) : (xs.take (i + 1)).foldl (fun o l => relO l o) o = relO xs[i] ((xs.take i).foldl (fun o l => relO l o) o) := by
  rw [take_snoc h, List.foldl_append]; rfl

theorem startO_ok (n : Nat) (a : Int) : OkO n 0 (startO n a) := by
  refine ⟨by simp [startO], fun x hx => ?_⟩
  have h : x = farI ∨ x = 0 := by
    rcases List.mem_or_eq_of_mem_set hx with hx | hx
    · exact .inl (List.mem_replicate.1 hx).2
    · exact .inr hx
  rcases h with h | h <;> subst h <;> exact ⟨by decide, by decide⟩

def Hub (n : Nat) (arcs : List Lnk) : Prop := ∀ v, v < n → (∃ l ∈ arcs, plc n l.f = n ∧ plc n l.t = v) ∧ (∃ l ∈ arcs, plc n l.f = v ∧ plc n l.t = n)

theorem Hub.all {n : Nat} {rev : Nat → Bool} {arcs : List Lnk} {T : Tr} {src : Nat} (h : Hub n arcs) (hf : Fix (edgs n rev 0 arcs) T) (hs : src ≤ n) (hT : T.there.getD src false = true) : ∀ v, v ≤ n → T.there.getD v false = true := by
  have arc : ∀ l ∈ arcs, T.there.getD (plc n l.f) false = true → T.there.getD (plc n l.t) false = true := by
    intro l hl ht
    obtain ⟨j, hj⟩ := List.getElem?_of_mem hl
    exact (hf _ (edgs_mem.2 ⟨j, l, hj, .inl rfl⟩) ht).1
  have h0 : T.there.getD n false = true := by
    rcases Nat.lt_or_ge src n with hlt | hge
    · obtain ⟨_, l, hl, h1, h2⟩ := h src hlt
      have := arc l hl (by rw [h1]; exact hT)
      rwa [h2] at this
    · rwa [show src = n from by omega] at hT
  intro v hv
  rcases Nat.lt_or_ge v n with hlt | hge
  · obtain ⟨⟨l, hl, h1, h2⟩, _⟩ := h v hlt
    have := arc l hl (by rw [h1]; exact h0)
    rwa [h2] at this
  · rw [show v = n from by omega]; exact h0

theorem rounds_hub {n : Nat} {rev : Nat → Bool} {arcs : List Lnk} {src k : Nat} (hok : ∀ l ∈ arcs, ArcOK n l) (hub : Hub n arcs) (hs : src ≤ n) (h : (roundsF n rev arcs k (startF n src)).2 = -1) :
    (∀ v, v ≤ n → (roundsF n rev arcs k (startF n src)).1.there.getD v false = true) ∧ Pot (fun v => (roundsF n rev arcs k (startF n src)).1.sum.getD v 0) (edgs n rev 0 arcs) := by
  obtain ⟨hf, ts, r, hB⟩ := rounds_fix hok hs h
  have hall := hub.all hf hs hB.so.2.1
  exact ⟨hall, fix_pot hf fun e he => hall _ (by have := (edgs_ok hok e he).1; omega)⟩

theorem replicate_snoc {α : Type} (n : Nat) (x : α) : List.replicate n x ++ [x] = List.replicate (n + 1) x := by
  rw [List.replicate_succ']

end Proofs
end Go

namespace Go.Proofs
open Go.Sx

def optO : Option (List Int) → List Int
  | some o => o
  | none => []

theorem getD_of {xs : List Int} {i : Nat} (h : i < xs.length) : xs.getD i 0 = xs[i] := by
  rw [List.getD_eq_getElem?_getD, List.getElem?_eq_getElem h]; rfl

theorem from_t (bs : List (Int × Int)) (ls : List Lnk) (a : Int) (hb : bs.length ≤ 1000) (hB : BoxB bs) (hl : ls.length ≤ 8000) (hok : ∀ l ∈ allF bs ls, ArcOK bs.length l) (ha : -1 ≤ a ∧ a < bs.length) :
    Triple Tryz.prog 165 [sysA bs.length ls.length, iv .i64 a] (sysH bs ls) 2 (.tup [.inl (.s 2 0 (optO (fromF bs.length (allF bs ls) a)).length 1), .inl (.v (.bool (fromF bs.length (allF bs ls) a).isSome))])
      [(2, true, .arr (aInt (optO (fromF bs.length (allF bs ls) a))))] := by
  refine triple_of tB_ok Tryz.func165 rfl Tryz.call165 rfl ?_
  intro ρ w hH
  conv=>whnf
  refine call_step (refAll_t bs ls hb hB (by omega)) rfl rfl ?_
  conv=>whnf
  refine ⟨?_, ?_, ?_⟩
  iterate 2 · repeat' (first | exact trivial | exact rfl | refine And.intro ?_ ?_ | ((conv=>whnf); first | exact trivial | exact rfl | refine And.intro ?_ ?_ | omega))
  conv=>whnf
  have hal := allF_len bs ls
  generalize allF bs ls = arcs at *
  generalize hn : bs.length = n at *
  refine loop_step tB_ok (G := Int × List Int) 1 [] (fun g => [(8, iv .i64 g.1), (7, .c (.s 4 0 g.2.length 1))]) (fun g => [(4, true, .arr (aInt g.2))]) (fun g => -1 ≤ g.1 ∧ g.1 ≤ n ∧ g.2 = List.replicate (g.1 + 1).toNat farI) (fun g => ((n : Int) - g.1).toNat) ?_
  conv=>whnf
  refine ⟨⟨(-1, []), ⟨by omega, by omega, rfl⟩, ?_⟩, ?_⟩
  · conv=>whnf
    repeat' (first | exact trivial | exact rfl | refine And.intro ?_ ?_ | ((conv=>whnf); first | exact trivial | exact rfl | refine And.intro ?_ ?_ | omega))
  rintro ⟨i, xs⟩ ⟨hi1, hi2, hxs⟩ ρ1 t1 hρ1
  have hi1 : -1 ≤ i := hi1
  have hi2 : i ≤ n := hi2
  have hxs : xs = List.replicate (i + 1).toNat farI := hxs
  have hxl : xs.length = (i + 1).toNat := by rw [hxs, List.length_replicate]
  dsimp only
  conv=>whnf
  refine ⟨fun hc => ?_, fun hc => ?_⟩
  · have hlt : i < n := by simpa using hc
    conv=>whnf
    refine bs_step tB_ok (aInt [1099511627776]) rfl rfl ?_
    conv=>whnf
    refine ⟨⟨rfl, rfl, trivial⟩, ?_⟩
    conv=>whnf
    refine app_step tB_ok (aInt xs) [(1099511627776 : Int)] (fun _ => rfl) rfl rfl rfl rfl ?_
    conv=>whnf
    refine ⟨⟨rfl, rfl, Nat.le_refl _, Nat.le_refl _, by show (xs.length + 1) * 9 ≤ _; omega⟩, ?_⟩
    conv=>whnf
    refine ⟨i + 1, wrapId (z := i + 1) ⟨by omega, by omega⟩, ?_⟩
    refine ⟨(i + 1, xs ++ [1099511627776]), ⟨by omega, by omega, ?_⟩, by show ((n : Int) - (i + 1)).toNat < ((n : Int) - i).toNat; omega, ?_⟩
    · show xs ++ [1099511627776] = List.replicate (i + 1 + 1).toNat farI
      rw [hxs, replicate_snoc, show (i + 1 + 1).toNat = (i + 1).toNat + 1 from by omega]
    conv=>whnf
    refine ⟨rfl, ?_⟩
    conv=>whnf
    repeat' (first | exact trivial | exact rfl | refine And.intro ?_ ?_ | ((conv=>whnf); first | exact trivial | exact rfl | refine And.intro ?_ ?_ | omega))
    · simp
    · exact congrArg aInt app1
  have hin : i = n := by simp at hc; omega
  subst hin
  have hxl : xs.length = n + 1 := by omega
  conv=>whnf
  refine ⟨a + 1, wrapId (z := a + 1) ⟨by omega, by omega⟩, ?_⟩
  conv=>whnf
  refine ⟨(a + 1).toNat, by omega, by omega, by show (a + 1).toNat < xs.length; omega, (0 : Int), rfl, ?_⟩
  conv=>whnf
  have hst : xs.set (a + 1).toNat 0 = startO n a := by rw [hxs, show ((n : Int) + 1).toNat = n + 1 from by omega]; rfl
  refine loop_step tB_ok (G := Nat × List Int) 0 [] (fun g => [(9, iv .i64 g.1)]) (fun g => [(4, true, .arr (aInt g.2))])
    (fun g => g.1 ≤ n + 2 ∧ OkO n (g.1 * (33554432 * arcs.length)) g.2 ∧ fromF n arcs a = roundsO arcs (n + 2 - g.1) g.2) (fun g => n + 2 - g.1) ?_
  conv=>whnf
  refine ⟨⟨(0, xs.set (a + 1).toNat 0), ⟨Nat.zero_le _, by rw [hst]; exact (startO_ok n a).mono (by simp), by rw [hst]; rfl⟩, ?_⟩, ?_⟩
  · conv=>whnf
    repeat' (first | exact trivial | exact rfl | refine And.intro ?_ ?_ | ((conv=>whnf); first | exact trivial | exact rfl | refine And.intro ?_ ?_ | omega))
  rintro ⟨r, out⟩ ⟨hr, hO, hF⟩ ρ2 t2 hρ2
  have hr : r ≤ n + 2 := hr
  have hF : fromF n arcs a = roundsO arcs (n + 2 - r) out := hF
  dsimp only
  have hbd : ((r : Int) * (33554432 * arcs.length)) ≤ 1002 * (33554432 * 10000) := Int.mul_le_mul (by omega) (by omega) (by omega) (by omega)
  generalize hBd : ((r : Int) * (33554432 * arcs.length)) = BB at *
  have hOi : ∀ i, i ≤ arcs.length → OkO n (BB + 33554432 * i) ((arcs.take i).foldl (fun o l => relO l o) (out, false)).1 := fun i hi => by
    have := OkO.fold (xs := arcs.take i) (o := (out, false)) (fun l hl => hok l (List.mem_of_mem_take hl)) hO
    rw [List.length_take, Nat.min_eq_left hi] at this
    exact this
  conv=>whnf
  refine ⟨(n : Int) + 1, wrapId (z := (n : Int) + 1) ⟨by omega, by omega⟩, ?_⟩
  conv=>whnf
  refine ⟨fun hc => ?_, fun hc => ?_⟩
  · have hlt : r < n + 2 := by have : (r : Int) ≤ n + 1 := by simpa using hc
                               omega
    conv=>whnf
    refine loop_step tB_ok (G := Nat × List Int × Bool) 0 [] (fun g => [(11, iv .i64 g.1), (10, bv g.2.2)]) (fun g => [(4, true, .arr (aInt g.2.1))])
      (fun g => g.1 ≤ arcs.length ∧ g.2 = (arcs.take g.1).foldl (fun o l => relO l o) (out, false)) (fun g => arcs.length - g.1) ?_
    conv=>whnf
    refine ⟨⟨(0, out, false), ⟨Nat.zero_le _, rfl⟩, ?_⟩, ?_⟩
    · conv=>whnf
      repeat' (first | exact trivial | exact rfl | refine And.intro ?_ ?_ | ((conv=>whnf); first | exact trivial | exact rfl | refine And.intro ?_ ?_ | omega))
    rintro ⟨k, o, c⟩ ⟨hk, ho⟩ ρ3 t3 hρ3
    have hk : k ≤ arcs.length := hk
    have ho : (o, c) = (arcs.take k).foldl (fun o l => relO l o) (out, false) := ho
    have hOk := hOi k hk
    rw [← ho] at hOk
    have hol : o.length = n + 1 := hOk.len
    dsimp only
    conv=>whnf
    refine ⟨fun hc => ?_, fun hc => ?_⟩
    · have hlt : k < arcs.length := by simpa using hc
      obtain ⟨hf, ht, hm⟩ := hok arcs[k] (List.getElem_mem hlt)
      have hst := passO_snoc (o := (out, false)) hlt
      rw [← ho] at hst
      have hfi : (arcs[k].f + 1).toNat < o.length := by omega
      have hti : (arcs[k].t + 1).toNat < o.length := by omega
      have hbf : _ ∧ o[(arcs[k].f + 1).toNat] ≤ 1099511627776 := hOk.bd _ (List.getElem_mem hfi)
      have ef := getD_of hfi
      have et := getD_of hti
      conv=>whnf
      refine ⟨k, rfl, hlt, hlt, ?_⟩
      conv=>whnf
      refine ⟨arcs[k].f + 1, wrapId (z := arcs[k].f + 1) ⟨by omega, by omega⟩, ?_⟩
      conv=>whnf
      refine ⟨(arcs[k].f + 1).toNat, by omega, by omega, hfi, ?_⟩
      conv=>whnf
      refine ⟨k, rfl, hlt, hlt, ?_⟩
      conv=>whnf
      refine ⟨o[(arcs[k].f + 1).toNat] + arcs[k].m, wrapId (z := o[(arcs[k].f + 1).toNat] + arcs[k].m) ⟨by omega, by omega⟩, ?_⟩
      conv=>whnf
      refine ⟨k, rfl, hlt, hlt, ?_⟩
      conv=>whnf
      refine ⟨arcs[k].f + 1, wrapId (z := arcs[k].f + 1) ⟨by omega, by omega⟩, ?_⟩
      conv=>whnf
      refine ⟨(arcs[k].f + 1).toNat, by omega, by omega, hfi, ?_⟩
      conv=>whnf
      refine ⟨fun hc => ?_, fun hc => ?_⟩
      · have h1 : o[(arcs[k].f + 1).toNat] < 1099511627776 := of_decide_eq_true (show decide (o[(arcs[k].f + 1).toNat] < 1099511627776) = true from hc)
        conv=>whnf
        refine ⟨k, rfl, hlt, hlt, ?_⟩
        conv=>whnf
        refine ⟨arcs[k].t + 1, wrapId (z := arcs[k].t + 1) ⟨by omega, by omega⟩, ?_⟩
        conv=>whnf
        refine ⟨(arcs[k].t + 1).toNat, by omega, by omega, hti, ?_⟩
        conv=>whnf
        refine ⟨fun hc => ?_, fun hc => ?_⟩
        · have h2 : o[(arcs[k].f + 1).toNat] + arcs[k].m < o[(arcs[k].t + 1).toNat] := of_decide_eq_true (show decide (o[(arcs[k].f + 1).toNat] + arcs[k].m < o[(arcs[k].t + 1).toNat]) = true from hc)
          conv=>whnf
          refine ⟨k, rfl, hlt, hlt, ?_⟩
          conv=>whnf
          refine ⟨arcs[k].t + 1, wrapId (z := arcs[k].t + 1) ⟨by omega, by omega⟩, ?_⟩
          conv=>whnf
          refine ⟨(arcs[k].t + 1).toNat, by omega, by omega, hti, o[(arcs[k].f + 1).toNat] + arcs[k].m, rfl, ?_⟩
          conv=>whnf
          refine ⟨_, wrapId ⟨by omega, by omega⟩, ?_⟩
          refine ⟨(k + 1, o.set (arcs[k].t + 1).toNat (o[(arcs[k].f + 1).toNat] + arcs[k].m), true), ⟨hlt, ?_⟩, by show arcs.length - (k + 1) < arcs.length - k; omega, ?_⟩
          · show ((o.set (arcs[k].t + 1).toNat (o[(arcs[k].f + 1).toNat] + arcs[k].m), true) : List Int × Bool) = (arcs.take (k + 1)).foldl (fun o l => relO l o) (out, false)
            rw [hst]
            unfold relO
            dsimp only
            rw [ef, et]
            simp [h1, h2]
          conv=>whnf
          refine ⟨rfl, ?_⟩
          conv=>whnf
          repeat' (first | exact trivial | exact rfl | refine And.intro ?_ ?_ | ((conv=>whnf); first | exact trivial | exact rfl | refine And.intro ?_ ?_ | omega))
        · have h2 : ¬ o[(arcs[k].f + 1).toNat] + arcs[k].m < o[(arcs[k].t + 1).toNat] := of_decide_eq_false (show decide (o[(arcs[k].f + 1).toNat] + arcs[k].m < o[(arcs[k].t + 1).toNat]) = false from hc)
          conv=>whnf
          refine ⟨_, wrapId ⟨by omega, by omega⟩, ?_⟩
          refine ⟨(k + 1, o, c), ⟨hlt, ?_⟩, by show arcs.length - (k + 1) < arcs.length - k; omega, ?_⟩
          · show ((o, c) : List Int × Bool) = (arcs.take (k + 1)).foldl (fun o l => relO l o) (out, false)
            rw [hst]
            unfold relO
            dsimp only
            rw [ef, et]
            simp [h1, h2]
          conv=>whnf
          refine ⟨rfl, ?_⟩
          conv=>whnf
          repeat' (first | exact trivial | exact rfl | refine And.intro ?_ ?_ | ((conv=>whnf); first | exact trivial | exact rfl | refine And.intro ?_ ?_ | omega))
      · have h1 : ¬ o[(arcs[k].f + 1).toNat] < 1099511627776 := of_decide_eq_false (show decide (o[(arcs[k].f + 1).toNat] < 1099511627776) = false from hc)
        conv=>whnf
        refine ⟨_, wrapId ⟨by omega, by omega⟩, ?_⟩
        refine ⟨(k + 1, o, c), ⟨hlt, ?_⟩, by show arcs.length - (k + 1) < arcs.length - k; omega, ?_⟩
        · show ((o, c) : List Int × Bool) = (arcs.take (k + 1)).foldl (fun o l => relO l o) (out, false)
          rw [hst]
          unfold relO
          dsimp only
          rw [ef, et]
          simp [h1]
        conv=>whnf
        refine ⟨rfl, ?_⟩
        conv=>whnf
        repeat' (first | exact trivial | exact rfl | refine And.intro ?_ ?_ | ((conv=>whnf); first | exact trivial | exact rfl | refine And.intro ?_ ?_ | omega))
    have hke : k = arcs.length := by simp at hc; omega
    have hp : passO arcs out = (o, c) := by rw [ho, hke, List.take_length]; rfl
    have hOk2 : OkO n (((r + 1 : Nat) : Int) * (33554432 * arcs.length)) o := hOk.mono (by
      rw [← hBd, Int.natCast_succ, Int.add_mul, hke]; omega)
    have eR : roundsO arcs (n + 2 - r) out = if c then roundsO arcs (n + 2 - (r + 1)) o else some o := by
      rw [show n + 2 - r = (n + 2 - (r + 1)) + 1 from by omega, roundsO, hp]
    conv=>whnf
    refine ⟨fun hc => ?_, fun hc => ?_⟩
    · have h0 : c = false := by simpa using hc
      rw [h0] at eR
      have eF : fromF n arcs a = some o := by rw [hF, eR]; rfl
      rw [eF]
      conv=>whnf
      repeat' (first | exact trivial | exact rfl | refine And.intro ?_ ?_ | ((conv=>whnf); first | exact trivial | exact rfl | refine And.intro ?_ ?_ | omega))
      exact hxl.trans hol.symm
    · have h0 : c = true := by simpa using hc
      rw [h0, if_pos rfl] at eR
      conv=>whnf
      refine ⟨_, wrapId ⟨by omega, by omega⟩, ?_⟩
      refine ⟨(r + 1, o), ⟨hlt, hOk2, by rw [hF, eR]⟩, by show n + 2 - (r + 1) < n + 2 - r; omega, ?_⟩
      conv=>whnf
      refine ⟨rfl, ?_⟩
      conv=>whnf
      repeat' (first | exact trivial | exact rfl | refine And.intro ?_ ?_ | ((conv=>whnf); first | exact trivial | exact rfl | refine And.intro ?_ ?_ | omega))
  have hre : r = n + 2 := by have : ¬ (r : Int) ≤ n + 1 := by simpa using hc
                             omega
  have eF : fromF n arcs a = none := by rw [hF, hre, Nat.sub_self]; rfl
  rw [eF]
  conv=>whnf
  repeat' (first | exact trivial | exact rfl | refine And.intro ?_ ?_ | ((conv=>whnf); first | exact trivial | exact rfl | refine And.intro ?_ ?_ | omega))

end Go.Proofs

