/-
  A part of the proof that a law answers true: lemmas of a symbolic walk, plain functions, or contracts of the functions walked (R5, Rs). Conditions: none.
-/
import Derived.Test.YtagedjfjcnemoaaGreatPart17
import Derived.Ground.SlsfProg
import Derived.Shelf.SlSortCmp.Whole1
import Derived.Shelf.SlSortCmp.NoneTotal
import Derived.Test.YtagedjfjcnemoaaGreatProg
set_option maxRecDepth 100000
set_option linter.unusedVariables false
set_option linter.unusedSimpArgs false
namespace Go.Proofs
open Go.Sx

theorem isNaN_t (x : Int) : Triple Tryz.prog 215 [iv .i64 x] [] 0 (bv false) [] := by
  refine triple_of tB_ok Tryz.func215 rfl Tryz.call215 rfl ?_
  intro ρ w hH
  conv=>whnf
  exact ⟨(by simp : (x != x) = false), trivial⟩
theorem isNaNS_t (x : Int) : Triple Tryz.prog 256 [iv .i64 x] [] 0 (bv false) [] := by
  refine triple_of tB_ok Tryz.func256 rfl Tryz.call256 rfl ?_
  intro ρ w hH
  conv=>whnf
  exact ⟨(by simp : (x != x) = false), trivial⟩

theorem compare_t (a b : Int) : Triple Tryz.prog 157 [iv .i64 a, iv .i64 b] [] 0 (iv .i64 (cmpI a b)) [] := by
  have e : cmpI a b = if a < b then -1 else if b < a then 1 else 0 := rfl
  generalize cmpI a b = R at *
  refine triple_of tB_ok Tryz.func157 rfl Tryz.call157 rfl ?_
  intro ρ w hH
  conv=>whnf
  refine call_step (isNaN_t a) rfl rfl ?_
  conv=>whnf
  refine ⟨?_, ?_, ?_⟩
  iterate 2 · repeat' (first | exact trivial | exact rfl | refine And.intro ?_ ?_ | ((conv=>whnf); first | exact trivial | exact rfl | refine And.intro ?_ ?_ | omega))
  conv=>whnf
  refine call_step (isNaN_t b) rfl rfl ?_
  conv=>whnf
  refine ⟨?_, ?_, ?_⟩
  iterate 2 · repeat' (first | exact trivial | exact rfl | refine And.intro ?_ ?_ | ((conv=>whnf); first | exact trivial | exact rfl | refine And.intro ?_ ?_ | omega))
  conv=>whnf
  refine ⟨fun hc => absurd hc (by simp), fun hc => ?_⟩
  conv=>whnf
  refine ⟨fun hc => absurd hc (by simp), fun hc => ?_⟩
  conv=>whnf
  refine ⟨fun hc => ?_, fun hc => ?_⟩
  · have h1 : a < b := of_decide_eq_true hc
    rw [if_pos h1] at e
    subst e
    conv=>whnf
    repeat' (first | exact trivial | exact rfl | refine And.intro ?_ ?_ | ((conv=>whnf); first | exact trivial | exact rfl | refine And.intro ?_ ?_ | omega))
  have h1 : ¬ a < b := of_decide_eq_false hc
  rw [if_neg h1] at e
  conv=>whnf
  refine ⟨fun hc => ?_, fun hc => ?_⟩
  · have h2 : b < a := of_decide_eq_true hc
    rw [if_pos h2] at e
    subst e
    conv=>whnf
    repeat' (first | exact trivial | exact rfl | refine And.intro ?_ ?_ | ((conv=>whnf); first | exact trivial | exact rfl | refine And.intro ?_ ?_ | omega))
  · have h2 : ¬ b < a := of_decide_eq_false hc
    rw [if_neg h2] at e
    subst e
    conv=>whnf
    repeat' (first | exact trivial | exact rfl | refine And.intro ?_ ?_ | ((conv=>whnf); first | exact trivial | exact rfl | refine And.intro ?_ ?_ | omega))
theorem compareS_t (a b : Int) : Triple Tryz.prog 226 [iv .i64 a, iv .i64 b] [] 0 (iv .i64 (cmpI a b)) [] := by
  have e : cmpI a b = if a < b then -1 else if b < a then 1 else 0 := rfl
  generalize cmpI a b = R at *
  refine triple_of tB_ok Tryz.func226 rfl Tryz.call226 rfl ?_
  intro ρ w hH
  conv=>whnf
  refine call_step (isNaNS_t a) rfl rfl ?_
  conv=>whnf
  refine ⟨?_, ?_, ?_⟩
  iterate 2 · repeat' (first | exact trivial | exact rfl | refine And.intro ?_ ?_ | ((conv=>whnf); first | exact trivial | exact rfl | refine And.intro ?_ ?_ | omega))
  conv=>whnf
  refine call_step (isNaNS_t b) rfl rfl ?_
  conv=>whnf
  refine ⟨?_, ?_, ?_⟩
  iterate 2 · repeat' (first | exact trivial | exact rfl | refine And.intro ?_ ?_ | ((conv=>whnf); first | exact trivial | exact rfl | refine And.intro ?_ ?_ | omega))
  conv=>whnf
  refine ⟨fun hc => absurd hc (by simp), fun hc => ?_⟩
  conv=>whnf
  refine ⟨fun hc => absurd hc (by simp), fun hc => ?_⟩
  conv=>whnf
  refine ⟨fun hc => ?_, fun hc => ?_⟩
  · have h1 : a < b := of_decide_eq_true hc
    rw [if_pos h1] at e
    subst e
    conv=>whnf
    repeat' (first | exact trivial | exact rfl | refine And.intro ?_ ?_ | ((conv=>whnf); first | exact trivial | exact rfl | refine And.intro ?_ ?_ | omega))
  have h1 : ¬ a < b := of_decide_eq_false hc
  rw [if_neg h1] at e
  conv=>whnf
  refine ⟨fun hc => ?_, fun hc => ?_⟩
  · have h2 : b < a := of_decide_eq_true hc
    rw [if_pos h2] at e
    subst e
    conv=>whnf
    repeat' (first | exact trivial | exact rfl | refine And.intro ?_ ?_ | ((conv=>whnf); first | exact trivial | exact rfl | refine And.intro ?_ ?_ | omega))
  · have h2 : ¬ b < a := of_decide_eq_false hc
    rw [if_neg h2] at e
    subst e
    conv=>whnf
    repeat' (first | exact trivial | exact rfl | refine And.intro ?_ ?_ | ((conv=>whnf); first | exact trivial | exact rfl | refine And.intro ?_ ?_ | omega))

theorem orI_take {l : List Int} {i : Nat} (h : i < l.length) (hz : ∀ x ∈ l.take i, x = 0) (hn : l[i] ≠ 0) : orI l = l[i] := by
  induction l generalizing i with
  | nil => simp at h
  | cons x r ih =>
    cases i with
    | zero => simp only [orI, List.getElem_cons_zero] at *; rw [if_neg hn]
    | succ i =>
      have h0 : x = 0 := hz x (by simp)
      simp only [orI, h0, if_pos, List.getElem_cons_succ] at *
      exact ih (by simpa using h) (fun y hy => hz y (by simp [hy])) hn

theorem orI_zero {l : List Int} (hz : ∀ x ∈ l, x = 0) : orI l = 0 := by
  induction l with
  | nil => rfl
  | cons x r ih =>
    simp only [orI]
    rw [if_pos (hz x (by simp))]
    exact ih fun y hy => hz y (by simp [hy])

theorem or_t (l : List Int) (hl : l.length ≤ 1000000) : Triple Tryz.prog 225 [.c (.s 0 0 l.length 1)] [(0, false, .arr (aInt l))] 1 (iv .i64 (orI l)) [] := by
  have hs : ∀ (i : Nat) (h : i < l.length), (∀ x ∈ l.take i, x = 0) → l[i] ≠ 0 → orI l = l[i] := fun i h => orI_take h
  have hz : (∀ x ∈ l, x = 0) → orI l = 0 := orI_zero
  generalize orI l = R at *
  refine triple_of tB_ok Tryz.func225 rfl Tryz.call225 rfl ?_
  intro ρ w hH
  conv=>whnf
  refine loop_step tB_ok (G := Nat) 0 [] (fun i => [(8, iv .i64 i)]) (fun _ => []) (fun i => i ≤ l.length ∧ ∀ x ∈ l.take i, x = 0) (fun i => l.length - i) ?_
  conv=>whnf
  refine ⟨⟨0, ⟨Nat.zero_le _, by simp⟩, ?_⟩, ?_⟩
  · conv=>whnf
    repeat' (first | exact trivial | exact rfl | refine And.intro ?_ ?_ | ((conv=>whnf); first | exact trivial | exact rfl | refine And.intro ?_ ?_ | omega))
  rintro i ⟨hi, hn⟩ ρ1 t1 hρ1
  conv=>whnf
  refine ⟨fun hc => ?_, fun hc => ?_⟩
  · have hlt : i < l.length := by simpa using hc
    conv=>whnf
    refine ⟨i, rfl, hlt, hlt, ?_⟩
    conv=>whnf
    refine ⟨fun hc => ?_, fun hc => ?_⟩
    · have h1 := hs i hlt hn (by simpa using (show (l[i] != 0) = true from hc))
      subst h1
      conv=>whnf
      repeat' (first | exact trivial | exact rfl | refine And.intro ?_ ?_ | ((conv=>whnf); first | exact trivial | exact rfl | refine And.intro ?_ ?_ | omega))
    · have h1 : l[i] = 0 := by simpa using (show (l[i] != 0) = false from hc)
      conv=>whnf
      refine ⟨_, wrapId ⟨by omega, by omega⟩, ?_⟩
      refine ⟨i + 1, ⟨hlt, ?_⟩, by show l.length - (i + 1) < l.length - i; omega, ?_⟩
      · intro x hx
        rw [take_snoc hlt] at hx
        rcases List.mem_append.1 hx with hx | hx
        · exact hn x hx
        · simp only [List.mem_singleton] at hx; rw [hx]; exact h1
      conv=>whnf
      refine ⟨rfl, ?_⟩
      conv=>whnf
      repeat' (first | exact trivial | exact rfl | refine And.intro ?_ ?_ | ((conv=>whnf); first | exact trivial | exact rfl | refine And.intro ?_ ?_ | omega))
  · have hie : i = l.length := by simp at hc; omega
    subst hie
    rw [List.take_length] at hn
    have h1 := hz hn
    subst h1
    conv=>whnf
    repeat' (first | exact trivial | exact rfl | refine And.intro ?_ ?_ | ((conv=>whnf); first | exact trivial | exact rfl | refine And.intro ?_ ?_ | omega))

theorem byObject_t (a b : Thg) : Triple Tryz.prog 175 [svThg a, svThg b] [] 1 (iv .i64 (orI [cmpI a.lot b.lot, cmpI a.bale b.bale, cmpI a.smp b.smp, cmpI a.st b.st])) [] := by
  refine triple_of tB_ok Tryz.func175 rfl Tryz.call175 rfl ?_
  intro ρ w hH
  conv=>whnf
  refine call_step (compare_t a.lot b.lot) rfl rfl ?_
  conv=>whnf
  refine ⟨?_, ?_, ?_⟩
  iterate 2 · repeat' (first | exact trivial | exact rfl | refine And.intro ?_ ?_ | ((conv=>whnf); first | exact trivial | exact rfl | refine And.intro ?_ ?_ | omega))
  conv=>whnf
  refine call_step (compare_t a.bale b.bale) rfl rfl ?_
  conv=>whnf
  refine ⟨?_, ?_, ?_⟩
  iterate 2 · repeat' (first | exact trivial | exact rfl | refine And.intro ?_ ?_ | ((conv=>whnf); first | exact trivial | exact rfl | refine And.intro ?_ ?_ | omega))
  conv=>whnf
  refine call_step (compare_t a.smp b.smp) rfl rfl ?_
  conv=>whnf
  refine ⟨?_, ?_, ?_⟩
  iterate 2 · repeat' (first | exact trivial | exact rfl | refine And.intro ?_ ?_ | ((conv=>whnf); first | exact trivial | exact rfl | refine And.intro ?_ ?_ | omega))
  conv=>whnf
  refine call_step (compareS_t a.st b.st) rfl rfl ?_
  conv=>whnf
  refine ⟨?_, ?_, ?_⟩
  iterate 2 · repeat' (first | exact trivial | exact rfl | refine And.intro ?_ ?_ | ((conv=>whnf); first | exact trivial | exact rfl | refine And.intro ?_ ?_ | omega))
  conv=>whnf
  refine bs_step tB_ok (aInt [cmpI a.lot b.lot, cmpI a.bale b.bale, cmpI a.smp b.smp, cmpI a.st b.st]) rfl rfl ?_
  conv=>whnf
  refine ⟨⟨rfl, (by repeat' (first | exact trivial | exact rfl | refine And.intro ?_ ?_ | ((conv=>whnf); first | exact trivial | exact rfl | refine And.intro ?_ ?_ | omega)))⟩, ?_⟩
  conv=>whnf
  refine call_step (or_t [cmpI a.lot b.lot, cmpI a.bale b.bale, cmpI a.smp b.smp, cmpI a.st b.st] (by simp)) rfl rfl ?_
  conv=>whnf
  refine ⟨?_, ?_, ?_⟩
  iterate 2 · repeat' (first | exact trivial | exact rfl | refine And.intro ?_ ?_ | ((conv=>whnf); first | exact trivial | exact rfl | refine And.intro ?_ ?_ | omega))
  conv=>whnf
  repeat' (first | exact trivial | exact rfl | refine And.intro ?_ ?_ | ((conv=>whnf); first | exact trivial | exact rfl | refine And.intro ?_ ?_ | omega))

theorem byMoment_t (a b : Mom) : Triple Tryz.prog 178 [svMom a, svMom b] [] 1 (iv .i64 (orI [cmpI a.bal b.bal, cmpI a.tick b.tick])) [] := by
  refine triple_of tB_ok Tryz.func178 rfl Tryz.call178 rfl ?_
  intro ρ w hH
  conv=>whnf
  refine call_step (compare_t a.bal b.bal) rfl rfl ?_
  conv=>whnf
  refine ⟨?_, ?_, ?_⟩
  iterate 2 · repeat' (first | exact trivial | exact rfl | refine And.intro ?_ ?_ | ((conv=>whnf); first | exact trivial | exact rfl | refine And.intro ?_ ?_ | omega))
  conv=>whnf
  refine call_step (compare_t a.tick b.tick) rfl rfl ?_
  conv=>whnf
  refine ⟨?_, ?_, ?_⟩
  iterate 2 · repeat' (first | exact trivial | exact rfl | refine And.intro ?_ ?_ | ((conv=>whnf); first | exact trivial | exact rfl | refine And.intro ?_ ?_ | omega))
  conv=>whnf
  refine bs_step tB_ok (aInt [cmpI a.bal b.bal, cmpI a.tick b.tick]) rfl rfl ?_
  conv=>whnf
  refine ⟨⟨rfl, (by repeat' (first | exact trivial | exact rfl | refine And.intro ?_ ?_ | ((conv=>whnf); first | exact trivial | exact rfl | refine And.intro ?_ ?_ | omega)))⟩, ?_⟩
  conv=>whnf
  refine call_step (or_t [cmpI a.bal b.bal, cmpI a.tick b.tick] (by simp)) rfl rfl ?_
  conv=>whnf
  refine ⟨?_, ?_, ?_⟩
  iterate 2 · repeat' (first | exact trivial | exact rfl | refine And.intro ?_ ?_ | ((conv=>whnf); first | exact trivial | exact rfl | refine And.intro ?_ ?_ | omega))
  conv=>whnf
  repeat' (first | exact trivial | exact rfl | refine And.intro ?_ ?_ | ((conv=>whnf); first | exact trivial | exact rfl | refine And.intro ?_ ?_ | omega))

theorem byIdWgh_t (a b : Wgh) : Triple Tryz.prog 156 [svWgh a, svWgh b] [] 1 (iv .i64 (cmpI a.id b.id)) [] := by
  refine triple_of tB_ok Tryz.func156 rfl Tryz.call156 rfl ?_
  intro ρ w hH
  conv=>whnf
  refine call_step (compare_t a.id b.id) rfl rfl ?_
  conv=>whnf
  refine ⟨?_, ?_, ?_⟩
  iterate 2 · repeat' (first | exact trivial | exact rfl | refine And.intro ?_ ?_ | ((conv=>whnf); first | exact trivial | exact rfl | refine And.intro ?_ ?_ | omega))
  conv=>whnf
  repeat' (first | exact trivial | exact rfl | refine And.intro ?_ ?_ | ((conv=>whnf); first | exact trivial | exact rfl | refine And.intro ?_ ?_ | omega))

theorem valuesWgh_t (xs : List Wgh) : Triple Tryz.prog 155 [.c (.s 0 0 xs.length 8)] [(0, false, .arr (aWgh xs))] 1 (.c (.f 214 [1])) [(1, true, .cells [.s 0 0 xs.length 8])] := by
  refine triple_of tB_ok Tryz.func155 rfl Tryz.call155 rfl ?_
  intro ρ w hH
  conv=>whnf
  repeat' (first | exact trivial | exact rfl | refine And.intro ?_ ?_ | ((conv=>whnf); first | exact trivial | exact rfl | refine And.intro ?_ ?_ | omega))

theorem seqRoundWgh (xs : List Wgh) (l : Wgh) (hlen : xs.length ≤ 1000000) : RoundT Tryz.prog Tryz.f248.ntmps [(2, .c (.p 1 0 0 0))] #[7]
    (rfA Tryz.f248) (rfB Tryz.f248) [svWgh l]
    [(1, true, .cells [.s 2 0 xs.length 8]), (2, true, .arr (aWgh xs))] 3
    [(1, true, .cells [.s 3 0 (xs ++ [l]).length 8]), (3, true, .arr (aWgh (xs ++ [l])))] := by
  refine round_of tB_ok rfl ?_
  intro Φ Φ' ρ w
  conv=>whnf
  refine ⟨rfl, ?_⟩
  conv=>whnf
  refine bs_step tB_ok (aWgh [l]) rfl rfl ?_
  conv=>whnf
  refine ⟨⟨rfl, (by repeat' (first | exact trivial | exact rfl | refine And.intro ?_ ?_ | ((conv=>whnf); first | exact trivial | exact rfl | refine And.intro ?_ ?_ | omega)))⟩, ?_⟩
  conv=>whnf
  refine app_step tB_ok (aWgh xs) [l] (fun _ => rfl) rfl rfl rfl rfl ?_
  conv=>whnf
  refine ⟨⟨rfl, rfl, Nat.le_refl _, Nat.le_refl _, by show (xs.length + 1) * 65 ≤ _; omega⟩, ?_⟩
  conv=>whnf
  refine ⟨rfl, ?_⟩
  conv=>whnf
  repeat' (first | exact trivial | exact rfl | refine And.intro ?_ ?_ | ((conv=>whnf); first | exact trivial | exact rfl | refine And.intro ?_ ?_ | omega))
  all_goals first | exact (congrArg aWgh app1.symm : _) | exact (congrArg aWgh app1 : _) | simp

theorem appendSeqWgh_t (xs : List Wgh) (hb : xs.length ≤ 1000) :
    Triple Tryz.prog 248 [.c (.v (.slice none 0 0)), .c (.f 214 [0])]
      [(0, false, .cells [.s 1 0 xs.length 8]), (1, false, .arr (aWgh xs))] 2 (.c (.s 2 0 xs.length 8)) [(2, true, .arr (aWgh xs))] := by
  refine triple_of tB_ok Tryz.func248 rfl Tryz.call248 rfl ?_
  intro ρ w hH
  conv=>whnf
  refine range_step (asg := rfA Tryz.f248) (body := rfB Tryz.f248) tB_ok rfl Tryz.func214 rfl Tryz.call214 rfl ?_
  conv=>whnf
  intro fo d l T0 ρ1 hT hE hl1
  have hA : ∀ i sv, (i, sv) ∈ [(2, SV.c (.p 2 0 0 0))] → sv.rel ρ1 (T0.getD i undef) := by
    intro i sv hm
    rcases List.mem_cons.1 hm with he | hm
    · cases he; exact hE 2
    · cases hm
  clear hE
  conv=>whnf
  refine loop_step tB_ok (G := Nat) 1 [] (fun i => [(7, iv .i64 i)]) (fun i => [(2, true, .cells [.s 5 0 (xs.take i).length 8]), (5, true, .arr (aWgh (xs.take i))), (4, true, recO fo T0 #[7] (rfA Tryz.f248) (rfB Tryz.f248) d)])
    (fun i => i ≤ xs.length) (fun i => xs.length - i) ?_
  conv=>whnf
  refine ⟨⟨0, Nat.zero_le _, ?_⟩, ?_⟩
  · conv=>whnf
    repeat' (first | exact trivial | exact rfl | refine And.intro ?_ ?_ | ((conv=>whnf); first | exact trivial | exact rfl | refine And.intro ?_ ?_ | omega))
  intro i hi ρ2 t2 hρ2
  have hρ2 : ∀ k, k < 5 → ρ2 k = ρ1 k := hρ2
  conv=>whnf
  refine ⟨fun hc => ?_, fun hc => ?_⟩
  · have h : i < xs.length := by simpa using hc
    have htl : (xs.take i).length ≤ 1000 := by rw [List.length_take]; omega
    conv=>whnf
    refine ⟨i, rfl, h, h, ?_⟩
    conv=>whnf
    refine yield_step (fn := fo) (d := d) [(2, .c (.p 2 0 0 0))] 4 (seqRoundWgh (xs.take i) xs[i] (by omega)) hT (relSt_agree hA rfl hρ2) ((congrArg Rg.blk (hρ2 4 (by omega))).trans hl1) rfl rfl rfl rfl ?_
    conv=>whnf
    refine ⟨?_, ?_, ?_⟩
    iterate 2 · repeat' (first | exact trivial | exact rfl | refine And.intro ?_ ?_ | ((conv=>whnf); first | exact trivial | exact rfl | refine And.intro ?_ ?_ | omega))
    conv=>whnf
    refine ⟨_, wrapId ⟨by omega, by omega⟩, ?_⟩
    refine ⟨i + 1, h, by show xs.length - (i + 1) < xs.length - i; omega, ?_⟩
    conv=>whnf
    refine ⟨rfl, ?_⟩
    conv=>whnf
    repeat' (first | exact trivial | exact rfl | refine And.intro ?_ ?_ | ((conv=>whnf); first | exact trivial | exact rfl | refine And.intro ?_ ?_ | omega))
    all_goals first | (exact congrArg aWgh (take_snoc h).symm) | (rw [take_snoc h])
  have hie : i = xs.length := by simp at hc; omega
  subst hie
  rw [List.take_length]
  conv=>whnf
  refine ⟨rfl, ?_⟩
  conv=>whnf
  refine ⟨fun _ h => h, ?_⟩
  conv=>whnf
  repeat' (first | exact trivial | exact rfl | refine And.intro ?_ ?_ | ((conv=>whnf); first | exact trivial | exact rfl | refine And.intro ?_ ?_ | omega))

theorem collectWgh_t (xs : List Wgh) (hb : xs.length ≤ 1000) :
    Triple Tryz.prog 212 [.c (.f 214 [0])]
      [(0, false, .cells [.s 1 0 xs.length 8]), (1, false, .arr (aWgh xs))] 2 (.c (.s 2 0 xs.length 8)) [(2, true, .arr (aWgh xs))] := by
  refine triple_of tB_ok Tryz.func212 rfl Tryz.call212 rfl ?_
  intro ρ w hH
  conv=>whnf
  refine call_step (appendSeqWgh_t xs hb) rfl rfl ?_
  conv=>whnf
  refine ⟨?_, ?_, ?_⟩
  iterate 2 · repeat' (first | exact trivial | exact rfl | refine And.intro ?_ ?_ | ((conv=>whnf); first | exact trivial | exact rfl | refine And.intro ?_ ?_ | omega))
  conv=>whnf
  repeat' (first | exact trivial | exact rfl | refine And.intro ?_ ?_ | ((conv=>whnf); first | exact trivial | exact rfl | refine And.intro ?_ ?_ | omega))

theorem byIdChk_t (a b : Chk) : Triple Tryz.prog 160 [svChk a, svChk b] [] 1 (iv .i64 (cmpI a.id b.id)) [] := by
  refine triple_of tB_ok Tryz.func160 rfl Tryz.call160 rfl ?_
  intro ρ w hH
  conv=>whnf
  refine call_step (compare_t a.id b.id) rfl rfl ?_
  conv=>whnf
  refine ⟨?_, ?_, ?_⟩
  iterate 2 · repeat' (first | exact trivial | exact rfl | refine And.intro ?_ ?_ | ((conv=>whnf); first | exact trivial | exact rfl | refine And.intro ?_ ?_ | omega))
  conv=>whnf
  repeat' (first | exact trivial | exact rfl | refine And.intro ?_ ?_ | ((conv=>whnf); first | exact trivial | exact rfl | refine And.intro ?_ ?_ | omega))

theorem valuesChk_t (xs : List Chk) : Triple Tryz.prog 159 [.c (.s 0 0 xs.length 5)] [(0, false, .arr (aChk xs))] 1 (.c (.f 218 [1])) [(1, true, .cells [.s 0 0 xs.length 5])] := by
  refine triple_of tB_ok Tryz.func159 rfl Tryz.call159 rfl ?_
  intro ρ w hH
  conv=>whnf
  repeat' (first | exact trivial | exact rfl | refine And.intro ?_ ?_ | ((conv=>whnf); first | exact trivial | exact rfl | refine And.intro ?_ ?_ | omega))

theorem seqRoundChk (xs : List Chk) (l : Chk) (hlen : xs.length ≤ 1000000) : RoundT Tryz.prog Tryz.f251.ntmps [(2, .c (.p 1 0 0 0))] #[7]
    (rfA Tryz.f251) (rfB Tryz.f251) [svChk l]
    [(1, true, .cells [.s 2 0 xs.length 5]), (2, true, .arr (aChk xs))] 3
    [(1, true, .cells [.s 3 0 (xs ++ [l]).length 5]), (3, true, .arr (aChk (xs ++ [l])))] := by
  refine round_of tB_ok rfl ?_
  intro Φ Φ' ρ w
  conv=>whnf
  refine ⟨rfl, ?_⟩
  conv=>whnf
  refine bs_step tB_ok (aChk [l]) rfl rfl ?_
  conv=>whnf
  refine ⟨⟨rfl, (by repeat' (first | exact trivial | exact rfl | refine And.intro ?_ ?_ | ((conv=>whnf); first | exact trivial | exact rfl | refine And.intro ?_ ?_ | omega)))⟩, ?_⟩
  conv=>whnf
  refine app_step tB_ok (aChk xs) [l] (fun _ => rfl) rfl rfl rfl rfl ?_
  conv=>whnf
  refine ⟨⟨rfl, rfl, Nat.le_refl _, Nat.le_refl _, by show (xs.length + 1) * 41 ≤ _; omega⟩, ?_⟩
  conv=>whnf
  refine ⟨rfl, ?_⟩
  conv=>whnf
  repeat' (first | exact trivial | exact rfl | refine And.intro ?_ ?_ | ((conv=>whnf); first | exact trivial | exact rfl | refine And.intro ?_ ?_ | omega))
  all_goals first | exact (congrArg aChk app1.symm : _) | exact (congrArg aChk app1 : _) | simp

theorem appendSeqChk_t (xs : List Chk) (hb : xs.length ≤ 1000) :
    Triple Tryz.prog 251 [.c (.v (.slice none 0 0)), .c (.f 218 [0])]
      [(0, false, .cells [.s 1 0 xs.length 5]), (1, false, .arr (aChk xs))] 2 (.c (.s 2 0 xs.length 5)) [(2, true, .arr (aChk xs))] := by
  refine triple_of tB_ok Tryz.func251 rfl Tryz.call251 rfl ?_
  intro ρ w hH
  conv=>whnf
  refine range_step (asg := rfA Tryz.f251) (body := rfB Tryz.f251) tB_ok rfl Tryz.func218 rfl Tryz.call218 rfl ?_
  conv=>whnf
  intro fo d l T0 ρ1 hT hE hl1
  have hA : ∀ i sv, (i, sv) ∈ [(2, SV.c (.p 2 0 0 0))] → sv.rel ρ1 (T0.getD i undef) := by
    intro i sv hm
    rcases List.mem_cons.1 hm with he | hm
    · cases he; exact hE 2
    · cases hm
  clear hE
  conv=>whnf
  refine loop_step tB_ok (G := Nat) 1 [] (fun i => [(7, iv .i64 i)]) (fun i => [(2, true, .cells [.s 5 0 (xs.take i).length 5]), (5, true, .arr (aChk (xs.take i))), (4, true, recO fo T0 #[7] (rfA Tryz.f251) (rfB Tryz.f251) d)])
    (fun i => i ≤ xs.length) (fun i => xs.length - i) ?_
  conv=>whnf
  refine ⟨⟨0, Nat.zero_le _, ?_⟩, ?_⟩
  · conv=>whnf
    repeat' (first | exact trivial | exact rfl | refine And.intro ?_ ?_ | ((conv=>whnf); first | exact trivial | exact rfl | refine And.intro ?_ ?_ | omega))
  intro i hi ρ2 t2 hρ2
  have hρ2 : ∀ k, k < 5 → ρ2 k = ρ1 k := hρ2
  conv=>whnf
  refine ⟨fun hc => ?_, fun hc => ?_⟩
  · have h : i < xs.length := by simpa using hc
    have htl : (xs.take i).length ≤ 1000 := by rw [List.length_take]; omega
    conv=>whnf
    refine ⟨i, rfl, h, h, ?_⟩
    conv=>whnf
    refine yield_step (fn := fo) (d := d) [(2, .c (.p 2 0 0 0))] 4 (seqRoundChk (xs.take i) xs[i] (by omega)) hT (relSt_agree hA rfl hρ2) ((congrArg Rg.blk (hρ2 4 (by omega))).trans hl1) rfl rfl rfl rfl ?_
    conv=>whnf
    refine ⟨?_, ?_, ?_⟩
    iterate 2 · repeat' (first | exact trivial | exact rfl | refine And.intro ?_ ?_ | ((conv=>whnf); first | exact trivial | exact rfl | refine And.intro ?_ ?_ | omega))
    conv=>whnf
    refine ⟨_, wrapId ⟨by omega, by omega⟩, ?_⟩
    refine ⟨i + 1, h, by show xs.length - (i + 1) < xs.length - i; omega, ?_⟩
    conv=>whnf
    refine ⟨rfl, ?_⟩
    conv=>whnf
    repeat' (first | exact trivial | exact rfl | refine And.intro ?_ ?_ | ((conv=>whnf); first | exact trivial | exact rfl | refine And.intro ?_ ?_ | omega))
    all_goals first | (exact congrArg aChk (take_snoc h).symm) | (rw [take_snoc h])
  have hie : i = xs.length := by simp at hc; omega
  subst hie
  rw [List.take_length]
  conv=>whnf
  refine ⟨rfl, ?_⟩
  conv=>whnf
  refine ⟨fun _ h => h, ?_⟩
  conv=>whnf
  repeat' (first | exact trivial | exact rfl | refine And.intro ?_ ?_ | ((conv=>whnf); first | exact trivial | exact rfl | refine And.intro ?_ ?_ | omega))

theorem collectChk_t (xs : List Chk) (hb : xs.length ≤ 1000) :
    Triple Tryz.prog 216 [.c (.f 218 [0])]
      [(0, false, .cells [.s 1 0 xs.length 5]), (1, false, .arr (aChk xs))] 2 (.c (.s 2 0 xs.length 5)) [(2, true, .arr (aChk xs))] := by
  refine triple_of tB_ok Tryz.func216 rfl Tryz.call216 rfl ?_
  intro ρ w hH
  conv=>whnf
  refine call_step (appendSeqChk_t xs hb) rfl rfl ?_
  conv=>whnf
  refine ⟨?_, ?_, ?_⟩
  iterate 2 · repeat' (first | exact trivial | exact rfl | refine And.intro ?_ ?_ | ((conv=>whnf); first | exact trivial | exact rfl | refine And.intro ?_ ?_ | omega))
  conv=>whnf
  repeat' (first | exact trivial | exact rfl | refine And.intro ?_ ?_ | ((conv=>whnf); first | exact trivial | exact rfl | refine And.intro ?_ ?_ | omega))

theorem byIdNtc_t (a b : Ntc) : Triple Tryz.prog 181 [svNtc a, svNtc b] [] 1 (iv .i64 (cmpI a.id b.id)) [] := by
  refine triple_of tB_ok Tryz.func181 rfl Tryz.call181 rfl ?_
  intro ρ w hH
  conv=>whnf
  refine call_step (compare_t a.id b.id) rfl rfl ?_
  conv=>whnf
  refine ⟨?_, ?_, ?_⟩
  iterate 2 · repeat' (first | exact trivial | exact rfl | refine And.intro ?_ ?_ | ((conv=>whnf); first | exact trivial | exact rfl | refine And.intro ?_ ?_ | omega))
  conv=>whnf
  repeat' (first | exact trivial | exact rfl | refine And.intro ?_ ?_ | ((conv=>whnf); first | exact trivial | exact rfl | refine And.intro ?_ ?_ | omega))

theorem valuesNtc_t (xs : List Ntc) : Triple Tryz.prog 180 [.c (.s 0 0 xs.length 6)] [(0, false, .arr (aNtc xs))] 1 (.c (.f 231 [1])) [(1, true, .cells [.s 0 0 xs.length 6])] := by
  refine triple_of tB_ok Tryz.func180 rfl Tryz.call180 rfl ?_
  intro ρ w hH
  conv=>whnf
  repeat' (first | exact trivial | exact rfl | refine And.intro ?_ ?_ | ((conv=>whnf); first | exact trivial | exact rfl | refine And.intro ?_ ?_ | omega))

theorem seqRoundNtc (xs : List Ntc) (l : Ntc) (hlen : xs.length ≤ 1000000) : RoundT Tryz.prog Tryz.f258.ntmps [(2, .c (.p 1 0 0 0))] #[7]
    (rfA Tryz.f258) (rfB Tryz.f258) [svNtc l]
    [(1, true, .cells [.s 2 0 xs.length 6]), (2, true, .arr (aNtc xs))] 3
    [(1, true, .cells [.s 3 0 (xs ++ [l]).length 6]), (3, true, .arr (aNtc (xs ++ [l])))] := by
  refine round_of tB_ok rfl ?_
  intro Φ Φ' ρ w
  conv=>whnf
  refine ⟨rfl, ?_⟩
  conv=>whnf
  refine bs_step tB_ok (aNtc [l]) rfl rfl ?_
  conv=>whnf
  refine ⟨⟨rfl, (by repeat' (first | exact trivial | exact rfl | refine And.intro ?_ ?_ | ((conv=>whnf); first | exact trivial | exact rfl | refine And.intro ?_ ?_ | omega)))⟩, ?_⟩
  conv=>whnf
  refine app_step tB_ok (aNtc xs) [l] (fun _ => rfl) rfl rfl rfl rfl ?_
  conv=>whnf
  refine ⟨⟨rfl, rfl, Nat.le_refl _, Nat.le_refl _, by show (xs.length + 1) * 49 ≤ _; omega⟩, ?_⟩
  conv=>whnf
  refine ⟨rfl, ?_⟩
  conv=>whnf
  repeat' (first | exact trivial | exact rfl | refine And.intro ?_ ?_ | ((conv=>whnf); first | exact trivial | exact rfl | refine And.intro ?_ ?_ | omega))
  all_goals first | exact (congrArg aNtc app1.symm : _) | exact (congrArg aNtc app1 : _) | simp

theorem appendSeqNtc_t (xs : List Ntc) (hb : xs.length ≤ 1000) :
    Triple Tryz.prog 258 [.c (.v (.slice none 0 0)), .c (.f 231 [0])]
      [(0, false, .cells [.s 1 0 xs.length 6]), (1, false, .arr (aNtc xs))] 2 (.c (.s 2 0 xs.length 6)) [(2, true, .arr (aNtc xs))] := by
  refine triple_of tB_ok Tryz.func258 rfl Tryz.call258 rfl ?_
  intro ρ w hH
  conv=>whnf
  refine range_step (asg := rfA Tryz.f258) (body := rfB Tryz.f258) tB_ok rfl Tryz.func231 rfl Tryz.call231 rfl ?_
  conv=>whnf
  intro fo d l T0 ρ1 hT hE hl1
  have hA : ∀ i sv, (i, sv) ∈ [(2, SV.c (.p 2 0 0 0))] → sv.rel ρ1 (T0.getD i undef) := by
    intro i sv hm
    rcases List.mem_cons.1 hm with he | hm
    · cases he; exact hE 2
    · cases hm
  clear hE
  conv=>whnf
  refine loop_step tB_ok (G := Nat) 1 [] (fun i => [(7, iv .i64 i)]) (fun i => [(2, true, .cells [.s 5 0 (xs.take i).length 6]), (5, true, .arr (aNtc (xs.take i))), (4, true, recO fo T0 #[7] (rfA Tryz.f258) (rfB Tryz.f258) d)])
    (fun i => i ≤ xs.length) (fun i => xs.length - i) ?_
  conv=>whnf
  refine ⟨⟨0, Nat.zero_le _, ?_⟩, ?_⟩
  · conv=>whnf
    repeat' (first | exact trivial | exact rfl | refine And.intro ?_ ?_ | ((conv=>whnf); first | exact trivial | exact rfl | refine And.intro ?_ ?_ | omega))
  intro i hi ρ2 t2 hρ2
  have hρ2 : ∀ k, k < 5 → ρ2 k = ρ1 k := hρ2
  conv=>whnf
  refine ⟨fun hc => ?_, fun hc => ?_⟩
  · have h : i < xs.length := by simpa using hc
    have htl : (xs.take i).length ≤ 1000 := by rw [List.length_take]; omega
    conv=>whnf
    refine ⟨i, rfl, h, h, ?_⟩
    conv=>whnf
    refine yield_step (fn := fo) (d := d) [(2, .c (.p 2 0 0 0))] 4 (seqRoundNtc (xs.take i) xs[i] (by omega)) hT (relSt_agree hA rfl hρ2) ((congrArg Rg.blk (hρ2 4 (by omega))).trans hl1) rfl rfl rfl rfl ?_
    conv=>whnf
    refine ⟨?_, ?_, ?_⟩
    iterate 2 · repeat' (first | exact trivial | exact rfl | refine And.intro ?_ ?_ | ((conv=>whnf); first | exact trivial | exact rfl | refine And.intro ?_ ?_ | omega))
    conv=>whnf
    refine ⟨_, wrapId ⟨by omega, by omega⟩, ?_⟩
    refine ⟨i + 1, h, by show xs.length - (i + 1) < xs.length - i; omega, ?_⟩
    conv=>whnf
    refine ⟨rfl, ?_⟩
    conv=>whnf
    repeat' (first | exact trivial | exact rfl | refine And.intro ?_ ?_ | ((conv=>whnf); first | exact trivial | exact rfl | refine And.intro ?_ ?_ | omega))
    all_goals first | (exact congrArg aNtc (take_snoc h).symm) | (rw [take_snoc h])
  have hie : i = xs.length := by simp at hc; omega
  subst hie
  rw [List.take_length]
  conv=>whnf
  refine ⟨rfl, ?_⟩
  conv=>whnf
  refine ⟨fun _ h => h, ?_⟩
  conv=>whnf
  repeat' (first | exact trivial | exact rfl | refine And.intro ?_ ?_ | ((conv=>whnf); first | exact trivial | exact rfl | refine And.intro ?_ ?_ | omega))

theorem collectNtc_t (xs : List Ntc) (hb : xs.length ≤ 1000) :
    Triple Tryz.prog 229 [.c (.f 231 [0])]
      [(0, false, .cells [.s 1 0 xs.length 6]), (1, false, .arr (aNtc xs))] 2 (.c (.s 2 0 xs.length 6)) [(2, true, .arr (aNtc xs))] := by
  refine triple_of tB_ok Tryz.func229 rfl Tryz.call229 rfl ?_
  intro ρ w hH
  conv=>whnf
  refine call_step (appendSeqNtc_t xs hb) rfl rfl ?_
  conv=>whnf
  refine ⟨?_, ?_, ?_⟩
  iterate 2 · repeat' (first | exact trivial | exact rfl | refine And.intro ?_ ?_ | ((conv=>whnf); first | exact trivial | exact rfl | refine And.intro ?_ ?_ | omega))
  conv=>whnf
  repeat' (first | exact trivial | exact rfl | refine And.intro ?_ ?_ | ((conv=>whnf); first | exact trivial | exact rfl | refine And.intro ?_ ?_ | omega))

end Go.Proofs

namespace Go.Proofs
open Go.Shelf
def Tryz.laysSlF6_f220_ren : Go.Shelf.Ren := ⟨fun | 6 => 220 | 15 => 250 | 14 => 253 | 28 => 272 | 29 => 273 | 20 => 282 | 21 => 283 | 22 => 284 | 23 => 285 | 24 => 286 | 25 => 287 | 26 => 288 | 27 => 289 | 46 => 332 | 47 => 325 | 48 => 326 | 49 => 333 | 50 => 334 | 57 => 349 | n => n, fun | 22 => 43 | 24 => 3 | 25 => 101 | 3 => 3 | 39 => 315 | 0 => 0 | 53 => 337 | 55 => 339 | 4 => 4 | 46 => 331 | 45 => 330 | 50 => 103 | 5 => 5 | 9 => 9 | 66 => 374 | 70 => 378 | 76 => 392 | 77 => 393 | n => n, fun | n => n⟩
theorem Tryz.laysSlF6_f220 : Go.Proofs.SlLaysF.n6 Tryz.prog Tryz.laysSlF6_f220_ren := {
  mixed := by kernel_rfl
  f6 := ⟨Tryz.f220.name, by decide, Tryz.func220.trans (congrArg some (by kernel_rfl))⟩
  f14 := ⟨Tryz.f253.name, by decide, Tryz.func253.trans (congrArg some (by kernel_rfl))⟩
  f15 := Tryz.func250.trans (congrArg some (by kernel_rfl))
  f20 := ⟨Tryz.f282.name, by decide, Tryz.func282.trans (congrArg some (by kernel_rfl))⟩
  f21 := ⟨Tryz.f283.name, by decide, Tryz.func283.trans (congrArg some (by kernel_rfl))⟩
  f22 := ⟨Tryz.f284.name, by decide, Tryz.func284.trans (congrArg some (by kernel_rfl))⟩
  f23 := ⟨Tryz.f285.name, by decide, Tryz.func285.trans (congrArg some (by kernel_rfl))⟩
  f24 := ⟨Tryz.f286.name, by decide, Tryz.func286.trans (congrArg some (by kernel_rfl))⟩
  f25 := ⟨Tryz.f287.name, by decide, Tryz.func287.trans (congrArg some (by kernel_rfl))⟩
  f26 := ⟨Tryz.f288.name, by decide, Tryz.func288.trans (congrArg some (by kernel_rfl))⟩
  f27 := ⟨Tryz.f289.name, by decide, Tryz.func289.trans (congrArg some (by kernel_rfl))⟩
  f28 := Tryz.func272.trans (congrArg some (by kernel_rfl))
  f29 := Tryz.func273.trans (congrArg some (by kernel_rfl))
  f46 := ⟨Tryz.f332.name, by decide, Tryz.func332.trans (congrArg some (by kernel_rfl))⟩
  f47 := Tryz.func325.trans (congrArg some (by kernel_rfl))
  f48 := Tryz.func326.trans (congrArg some (by kernel_rfl))
  f49 := ⟨Tryz.f333.name, by decide, Tryz.func333.trans (congrArg some (by kernel_rfl))⟩
  f50 := ⟨Tryz.f334.name, by decide, Tryz.func334.trans (congrArg some (by kernel_rfl))⟩
  f57 := ⟨Tryz.f349.name, by decide, Tryz.func349.trans (congrArg some (by kernel_rfl))⟩
  t0 := Tryz.underlying0
  a0 := Tryz.isAgg0
  z0 := Tryz.sizeOf0
  v0 := Tryz.zeroValue0
  t3 := Tryz.underlying3
  a3 := Tryz.isAgg3
  z3 := Tryz.sizeOf3
  v3 := Tryz.zeroValue3
  t4 := Tryz.underlying4
  a4 := Tryz.isAgg4
  z4 := Tryz.sizeOf4
  v4 := Tryz.zeroValue4
  t5 := Tryz.underlying5
  a5 := Tryz.isAgg5
  z5 := Tryz.sizeOf5
  v5 := Tryz.zeroValue5
  t9 := Tryz.underlying9
  a9 := Tryz.isAgg9
  z9 := Tryz.sizeOf9
  v9 := Tryz.zeroValue9
  t22 := Tryz.underlying43
  a22 := Tryz.isAgg43
  z22 := Tryz.sizeOf43
  v22 := Tryz.zeroValue43
  a24 := Tryz.isAgg3
  z24 := Tryz.sizeOf3
  t25 := Tryz.underlying101
  a25 := Tryz.isAgg101
  z25 := Tryz.sizeOf101
  v25 := Tryz.zeroValue101
  t39 := Tryz.underlying315
  a39 := Tryz.isAgg315
  z39 := Tryz.sizeOf315
  v39 := Tryz.zeroValue315
  t45 := Tryz.underlying330
  a45 := Tryz.isAgg330
  z45 := Tryz.sizeOf330
  v45 := Tryz.zeroValue330
  t46 := Tryz.underlying331
  a46 := Tryz.isAgg331
  z46 := Tryz.sizeOf331
  v46 := Tryz.zeroValue331
  t50 := Tryz.underlying103
  a50 := Tryz.isAgg103
  z50 := Tryz.sizeOf103
  v50 := Tryz.zeroValue103
  t53 := Tryz.underlying337
  a53 := Tryz.isAgg337
  z53 := Tryz.sizeOf337
  v53 := Tryz.zeroValue337
  t55 := Tryz.underlying339
  a55 := Tryz.isAgg339
  z55 := Tryz.sizeOf339
  v55 := Tryz.zeroValue339
  t66 := Tryz.underlying374
  a66 := Tryz.isAgg374
  z66 := Tryz.sizeOf374
  v66 := Tryz.zeroValue374
  t70 := Tryz.underlying378
  a70 := Tryz.isAgg378
  z70 := Tryz.sizeOf378
  v70 := Tryz.zeroValue378
  t76 := Tryz.underlying392
  a76 := Tryz.isAgg392
  z76 := Tryz.sizeOf392
  v76 := Tryz.zeroValue392
  t77 := Tryz.underlying393
  a77 := Tryz.isAgg393
  z77 := Tryz.sizeOf393
  v77 := Tryz.zeroValue393 }
def Tryz.laysSlF06_f213_ren : Go.Shelf.Ren := ⟨fun | 6 => 213 | 15 => 250 | 14 => 249 | 28 => 272 | 29 => 273 | 20 => 264 | 21 => 265 | 22 => 266 | 23 => 267 | 24 => 268 | 25 => 269 | 26 => 270 | 27 => 271 | 46 => 324 | 47 => 325 | 48 => 326 | 49 => 327 | 50 => 328 | 57 => 347 | n => n, fun | 22 => 25 | 24 => 32 | 25 => 228 | 3 => 3 | 39 => 315 | 0 => 0 | 53 => 337 | 55 => 339 | 4 => 4 | 46 => 331 | 45 => 330 | 50 => 103 | 5 => 5 | 9 => 9 | 66 => 374 | 70 => 378 | 76 => 392 | 77 => 393 | n => n, fun | n => n⟩
theorem Tryz.laysSlF06_f213 : Go.Proofs.SlLaysF0.n6 Tryz.prog Tryz.laysSlF06_f213_ren := {
  mixed := by kernel_rfl
  f6 := ⟨Tryz.f213.name, by decide, Tryz.func213.trans (congrArg some (by kernel_rfl))⟩
  f14 := ⟨Tryz.f249.name, by decide, Tryz.func249.trans (congrArg some (by kernel_rfl))⟩
  f15 := Tryz.func250.trans (congrArg some (by kernel_rfl))
  f20 := ⟨Tryz.f264.name, by decide, Tryz.func264.trans (congrArg some (by kernel_rfl))⟩
  f21 := ⟨Tryz.f265.name, by decide, Tryz.func265.trans (congrArg some (by kernel_rfl))⟩
  f22 := ⟨Tryz.f266.name, by decide, Tryz.func266.trans (congrArg some (by kernel_rfl))⟩
  f23 := ⟨Tryz.f267.name, by decide, Tryz.func267.trans (congrArg some (by kernel_rfl))⟩
  f24 := ⟨Tryz.f268.name, by decide, Tryz.func268.trans (congrArg some (by kernel_rfl))⟩
  f25 := ⟨Tryz.f269.name, by decide, Tryz.func269.trans (congrArg some (by kernel_rfl))⟩
  f26 := ⟨Tryz.f270.name, by decide, Tryz.func270.trans (congrArg some (by kernel_rfl))⟩
  f27 := ⟨Tryz.f271.name, by decide, Tryz.func271.trans (congrArg some (by kernel_rfl))⟩
  f28 := Tryz.func272.trans (congrArg some (by kernel_rfl))
  f29 := Tryz.func273.trans (congrArg some (by kernel_rfl))
  f46 := ⟨Tryz.f324.name, by decide, Tryz.func324.trans (congrArg some (by kernel_rfl))⟩
  f47 := Tryz.func325.trans (congrArg some (by kernel_rfl))
  f48 := Tryz.func326.trans (congrArg some (by kernel_rfl))
  f49 := ⟨Tryz.f327.name, by decide, Tryz.func327.trans (congrArg some (by kernel_rfl))⟩
  f50 := ⟨Tryz.f328.name, by decide, Tryz.func328.trans (congrArg some (by kernel_rfl))⟩
  f57 := ⟨Tryz.f347.name, by decide, Tryz.func347.trans (congrArg some (by kernel_rfl))⟩
  t0 := Tryz.underlying0
  a0 := Tryz.isAgg0
  z0 := Tryz.sizeOf0
  v0 := Tryz.zeroValue0
  t3 := Tryz.underlying3
  a3 := Tryz.isAgg3
  z3 := Tryz.sizeOf3
  v3 := Tryz.zeroValue3
  t4 := Tryz.underlying4
  a4 := Tryz.isAgg4
  z4 := Tryz.sizeOf4
  v4 := Tryz.zeroValue4
  t5 := Tryz.underlying5
  a5 := Tryz.isAgg5
  z5 := Tryz.sizeOf5
  v5 := Tryz.zeroValue5
  t9 := Tryz.underlying9
  a9 := Tryz.isAgg9
  z9 := Tryz.sizeOf9
  v9 := Tryz.zeroValue9
  t22 := Tryz.underlying25
  a22 := Tryz.isAgg25
  z22 := Tryz.sizeOf25
  v22 := Tryz.zeroValue25
  t25 := Tryz.underlying228
  a25 := Tryz.isAgg228
  z25 := Tryz.sizeOf228
  v25 := Tryz.zeroValue228
  t39 := Tryz.underlying315
  a39 := Tryz.isAgg315
  z39 := Tryz.sizeOf315
  v39 := Tryz.zeroValue315
  t45 := Tryz.underlying330
  a45 := Tryz.isAgg330
  z45 := Tryz.sizeOf330
  v45 := Tryz.zeroValue330
  t46 := Tryz.underlying331
  a46 := Tryz.isAgg331
  z46 := Tryz.sizeOf331
  v46 := Tryz.zeroValue331
  t50 := Tryz.underlying103
  a50 := Tryz.isAgg103
  z50 := Tryz.sizeOf103
  v50 := Tryz.zeroValue103
  t53 := Tryz.underlying337
  a53 := Tryz.isAgg337
  z53 := Tryz.sizeOf337
  v53 := Tryz.zeroValue337
  t55 := Tryz.underlying339
  a55 := Tryz.isAgg339
  z55 := Tryz.sizeOf339
  v55 := Tryz.zeroValue339
  t66 := Tryz.underlying374
  a66 := Tryz.isAgg374
  z66 := Tryz.sizeOf374
  v66 := Tryz.zeroValue374
  t70 := Tryz.underlying378
  a70 := Tryz.isAgg378
  z70 := Tryz.sizeOf378
  v70 := Tryz.zeroValue378
  t76 := Tryz.underlying392
  a76 := Tryz.isAgg392
  z76 := Tryz.sizeOf392
  v76 := Tryz.zeroValue392
  t77 := Tryz.underlying393
  a77 := Tryz.isAgg393
  z77 := Tryz.sizeOf393
  v77 := Tryz.zeroValue393 }
def Tryz.laysSlF06_f217_ren : Go.Shelf.Ren := ⟨fun | 6 => 217 | 15 => 250 | 14 => 252 | 28 => 272 | 29 => 273 | 20 => 274 | 21 => 275 | 22 => 276 | 23 => 277 | 24 => 278 | 25 => 279 | 26 => 280 | 27 => 281 | 46 => 329 | 47 => 325 | 48 => 326 | 49 => 330 | 50 => 331 | 57 => 348 | n => n, fun | 22 => 23 | 24 => 51 | 25 => 233 | 3 => 3 | 39 => 315 | 0 => 0 | 53 => 337 | 55 => 339 | 4 => 4 | 46 => 331 | 45 => 330 | 50 => 103 | 5 => 5 | 9 => 9 | 66 => 374 | 70 => 378 | 76 => 392 | 77 => 393 | n => n, fun | n => n⟩
theorem Tryz.laysSlF06_f217 : Go.Proofs.SlLaysF0.n6 Tryz.prog Tryz.laysSlF06_f217_ren := {
  mixed := by kernel_rfl
  f6 := ⟨Tryz.f217.name, by decide, Tryz.func217.trans (congrArg some (by kernel_rfl))⟩
  f14 := ⟨Tryz.f252.name, by decide, Tryz.func252.trans (congrArg some (by kernel_rfl))⟩
  f15 := Tryz.func250.trans (congrArg some (by kernel_rfl))
  f20 := ⟨Tryz.f274.name, by decide, Tryz.func274.trans (congrArg some (by kernel_rfl))⟩
  f21 := ⟨Tryz.f275.name, by decide, Tryz.func275.trans (congrArg some (by kernel_rfl))⟩
  f22 := ⟨Tryz.f276.name, by decide, Tryz.func276.trans (congrArg some (by kernel_rfl))⟩
  f23 := ⟨Tryz.f277.name, by decide, Tryz.func277.trans (congrArg some (by kernel_rfl))⟩
  f24 := ⟨Tryz.f278.name, by decide, Tryz.func278.trans (congrArg some (by kernel_rfl))⟩
  f25 := ⟨Tryz.f279.name, by decide, Tryz.func279.trans (congrArg some (by kernel_rfl))⟩
  f26 := ⟨Tryz.f280.name, by decide, Tryz.func280.trans (congrArg some (by kernel_rfl))⟩
  f27 := ⟨Tryz.f281.name, by decide, Tryz.func281.trans (congrArg some (by kernel_rfl))⟩
  f28 := Tryz.func272.trans (congrArg some (by kernel_rfl))
  f29 := Tryz.func273.trans (congrArg some (by kernel_rfl))
  f46 := ⟨Tryz.f329.name, by decide, Tryz.func329.trans (congrArg some (by kernel_rfl))⟩
  f47 := Tryz.func325.trans (congrArg some (by kernel_rfl))
  f48 := Tryz.func326.trans (congrArg some (by kernel_rfl))
  f49 := ⟨Tryz.f330.name, by decide, Tryz.func330.trans (congrArg some (by kernel_rfl))⟩
  f50 := ⟨Tryz.f331.name, by decide, Tryz.func331.trans (congrArg some (by kernel_rfl))⟩
  f57 := ⟨Tryz.f348.name, by decide, Tryz.func348.trans (congrArg some (by kernel_rfl))⟩
  t0 := Tryz.underlying0
  a0 := Tryz.isAgg0
  z0 := Tryz.sizeOf0
  v0 := Tryz.zeroValue0
  t3 := Tryz.underlying3
  a3 := Tryz.isAgg3
  z3 := Tryz.sizeOf3
  v3 := Tryz.zeroValue3
  t4 := Tryz.underlying4
  a4 := Tryz.isAgg4
  z4 := Tryz.sizeOf4
  v4 := Tryz.zeroValue4
  t5 := Tryz.underlying5
  a5 := Tryz.isAgg5
  z5 := Tryz.sizeOf5
  v5 := Tryz.zeroValue5
  t9 := Tryz.underlying9
  a9 := Tryz.isAgg9
  z9 := Tryz.sizeOf9
  v9 := Tryz.zeroValue9
  t22 := Tryz.underlying23
  a22 := Tryz.isAgg23
  z22 := Tryz.sizeOf23
  v22 := Tryz.zeroValue23
  t25 := Tryz.underlying233
  a25 := Tryz.isAgg233
  z25 := Tryz.sizeOf233
  v25 := Tryz.zeroValue233
  t39 := Tryz.underlying315
  a39 := Tryz.isAgg315
  z39 := Tryz.sizeOf315
  v39 := Tryz.zeroValue315
  t45 := Tryz.underlying330
  a45 := Tryz.isAgg330
  z45 := Tryz.sizeOf330
  v45 := Tryz.zeroValue330
  t46 := Tryz.underlying331
  a46 := Tryz.isAgg331
  z46 := Tryz.sizeOf331
  v46 := Tryz.zeroValue331
  t50 := Tryz.underlying103
  a50 := Tryz.isAgg103
  z50 := Tryz.sizeOf103
  v50 := Tryz.zeroValue103
  t53 := Tryz.underlying337
  a53 := Tryz.isAgg337
  z53 := Tryz.sizeOf337
  v53 := Tryz.zeroValue337
  t55 := Tryz.underlying339
  a55 := Tryz.isAgg339
  z55 := Tryz.sizeOf339
  v55 := Tryz.zeroValue339
  t66 := Tryz.underlying374
  a66 := Tryz.isAgg374
  z66 := Tryz.sizeOf374
  v66 := Tryz.zeroValue374
  t70 := Tryz.underlying378
  a70 := Tryz.isAgg378
  z70 := Tryz.sizeOf378
  v70 := Tryz.zeroValue378
  t76 := Tryz.underlying392
  a76 := Tryz.isAgg392
  z76 := Tryz.sizeOf392
  v76 := Tryz.zeroValue392
  t77 := Tryz.underlying393
  a77 := Tryz.isAgg393
  z77 := Tryz.sizeOf393
  v77 := Tryz.zeroValue393 }
def Tryz.laysSlF06_f220_ren : Go.Shelf.Ren := ⟨fun | 6 => 220 | 15 => 250 | 14 => 253 | 28 => 272 | 29 => 273 | 20 => 282 | 21 => 283 | 22 => 284 | 23 => 285 | 24 => 286 | 25 => 287 | 26 => 288 | 27 => 289 | 46 => 332 | 47 => 325 | 48 => 326 | 49 => 333 | 50 => 334 | 57 => 349 | n => n, fun | 22 => 43 | 24 => 3 | 25 => 101 | 3 => 3 | 39 => 315 | 0 => 0 | 53 => 337 | 55 => 339 | 4 => 4 | 46 => 331 | 45 => 330 | 50 => 103 | 5 => 5 | 9 => 9 | 66 => 374 | 70 => 378 | 76 => 392 | 77 => 393 | n => n, fun | n => n⟩
theorem Tryz.laysSlF06_f220 : Go.Proofs.SlLaysF0.n6 Tryz.prog Tryz.laysSlF06_f220_ren := {
  mixed := by kernel_rfl
  f6 := ⟨Tryz.f220.name, by decide, Tryz.func220.trans (congrArg some (by kernel_rfl))⟩
  f14 := ⟨Tryz.f253.name, by decide, Tryz.func253.trans (congrArg some (by kernel_rfl))⟩
  f15 := Tryz.func250.trans (congrArg some (by kernel_rfl))
  f20 := ⟨Tryz.f282.name, by decide, Tryz.func282.trans (congrArg some (by kernel_rfl))⟩
  f21 := ⟨Tryz.f283.name, by decide, Tryz.func283.trans (congrArg some (by kernel_rfl))⟩
  f22 := ⟨Tryz.f284.name, by decide, Tryz.func284.trans (congrArg some (by kernel_rfl))⟩
  f23 := ⟨Tryz.f285.name, by decide, Tryz.func285.trans (congrArg some (by kernel_rfl))⟩
  f24 := ⟨Tryz.f286.name, by decide, Tryz.func286.trans (congrArg some (by kernel_rfl))⟩
  f25 := ⟨Tryz.f287.name, by decide, Tryz.func287.trans (congrArg some (by kernel_rfl))⟩
  f26 := ⟨Tryz.f288.name, by decide, Tryz.func288.trans (congrArg some (by kernel_rfl))⟩
  f27 := ⟨Tryz.f289.name, by decide, Tryz.func289.trans (congrArg some (by kernel_rfl))⟩
  f28 := Tryz.func272.trans (congrArg some (by kernel_rfl))
  f29 := Tryz.func273.trans (congrArg some (by kernel_rfl))
  f46 := ⟨Tryz.f332.name, by decide, Tryz.func332.trans (congrArg some (by kernel_rfl))⟩
  f47 := Tryz.func325.trans (congrArg some (by kernel_rfl))
  f48 := Tryz.func326.trans (congrArg some (by kernel_rfl))
  f49 := ⟨Tryz.f333.name, by decide, Tryz.func333.trans (congrArg some (by kernel_rfl))⟩
  f50 := ⟨Tryz.f334.name, by decide, Tryz.func334.trans (congrArg some (by kernel_rfl))⟩
  f57 := ⟨Tryz.f349.name, by decide, Tryz.func349.trans (congrArg some (by kernel_rfl))⟩
  t0 := Tryz.underlying0
  a0 := Tryz.isAgg0
  z0 := Tryz.sizeOf0
  v0 := Tryz.zeroValue0
  t3 := Tryz.underlying3
  a3 := Tryz.isAgg3
  z3 := Tryz.sizeOf3
  v3 := Tryz.zeroValue3
  t4 := Tryz.underlying4
  a4 := Tryz.isAgg4
  z4 := Tryz.sizeOf4
  v4 := Tryz.zeroValue4
  t5 := Tryz.underlying5
  a5 := Tryz.isAgg5
  z5 := Tryz.sizeOf5
  v5 := Tryz.zeroValue5
  t9 := Tryz.underlying9
  a9 := Tryz.isAgg9
  z9 := Tryz.sizeOf9
  v9 := Tryz.zeroValue9
  t22 := Tryz.underlying43
  a22 := Tryz.isAgg43
  z22 := Tryz.sizeOf43
  v22 := Tryz.zeroValue43
  t25 := Tryz.underlying101
  a25 := Tryz.isAgg101
  z25 := Tryz.sizeOf101
  v25 := Tryz.zeroValue101
  t39 := Tryz.underlying315
  a39 := Tryz.isAgg315
  z39 := Tryz.sizeOf315
  v39 := Tryz.zeroValue315
  t45 := Tryz.underlying330
  a45 := Tryz.isAgg330
  z45 := Tryz.sizeOf330
  v45 := Tryz.zeroValue330
  t46 := Tryz.underlying331
  a46 := Tryz.isAgg331
  z46 := Tryz.sizeOf331
  v46 := Tryz.zeroValue331
  t50 := Tryz.underlying103
  a50 := Tryz.isAgg103
  z50 := Tryz.sizeOf103
  v50 := Tryz.zeroValue103
  t53 := Tryz.underlying337
  a53 := Tryz.isAgg337
  z53 := Tryz.sizeOf337
  v53 := Tryz.zeroValue337
  t55 := Tryz.underlying339
  a55 := Tryz.isAgg339
  z55 := Tryz.sizeOf339
  v55 := Tryz.zeroValue339
  t66 := Tryz.underlying374
  a66 := Tryz.isAgg374
  z66 := Tryz.sizeOf374
  v66 := Tryz.zeroValue374
  t70 := Tryz.underlying378
  a70 := Tryz.isAgg378
  z70 := Tryz.sizeOf378
  v70 := Tryz.zeroValue378
  t76 := Tryz.underlying392
  a76 := Tryz.isAgg392
  z76 := Tryz.sizeOf392
  v76 := Tryz.zeroValue392
  t77 := Tryz.underlying393
  a77 := Tryz.isAgg393
  z77 := Tryz.sizeOf393
  v77 := Tryz.zeroValue393 }
def Tryz.laysSlF06_f223_ren : Go.Shelf.Ren := ⟨fun | 6 => 223 | 15 => 250 | 14 => 255 | 28 => 272 | 29 => 273 | 20 => 290 | 21 => 291 | 22 => 292 | 23 => 293 | 24 => 294 | 25 => 295 | 26 => 296 | 27 => 297 | 46 => 335 | 47 => 325 | 48 => 326 | 49 => 336 | 50 => 337 | 57 => 350 | n => n, fun | 22 => 67 | 24 => 30 | 25 => 249 | 3 => 3 | 39 => 315 | 0 => 0 | 53 => 337 | 55 => 339 | 4 => 4 | 46 => 331 | 45 => 330 | 50 => 103 | 5 => 5 | 9 => 9 | 66 => 374 | 70 => 378 | 76 => 392 | 77 => 393 | n => n, fun | n => n⟩
theorem Tryz.laysSlF06_f223 : Go.Proofs.SlLaysF0.n6 Tryz.prog Tryz.laysSlF06_f223_ren := {
  mixed := by kernel_rfl
  f6 := ⟨Tryz.f223.name, by decide, Tryz.func223.trans (congrArg some (by kernel_rfl))⟩
  f14 := ⟨Tryz.f255.name, by decide, Tryz.func255.trans (congrArg some (by kernel_rfl))⟩
  f15 := Tryz.func250.trans (congrArg some (by kernel_rfl))
  f20 := ⟨Tryz.f290.name, by decide, Tryz.func290.trans (congrArg some (by kernel_rfl))⟩
  f21 := ⟨Tryz.f291.name, by decide, Tryz.func291.trans (congrArg some (by kernel_rfl))⟩
  f22 := ⟨Tryz.f292.name, by decide, Tryz.func292.trans (congrArg some (by kernel_rfl))⟩
  f23 := ⟨Tryz.f293.name, by decide, Tryz.func293.trans (congrArg some (by kernel_rfl))⟩
  f24 := ⟨Tryz.f294.name, by decide, Tryz.func294.trans (congrArg some (by kernel_rfl))⟩
  f25 := ⟨Tryz.f295.name, by decide, Tryz.func295.trans (congrArg some (by kernel_rfl))⟩
  f26 := ⟨Tryz.f296.name, by decide, Tryz.func296.trans (congrArg some (by kernel_rfl))⟩
  f27 := ⟨Tryz.f297.name, by decide, Tryz.func297.trans (congrArg some (by kernel_rfl))⟩
  f28 := Tryz.func272.trans (congrArg some (by kernel_rfl))
  f29 := Tryz.func273.trans (congrArg some (by kernel_rfl))
  f46 := ⟨Tryz.f335.name, by decide, Tryz.func335.trans (congrArg some (by kernel_rfl))⟩
  f47 := Tryz.func325.trans (congrArg some (by kernel_rfl))
  f48 := Tryz.func326.trans (congrArg some (by kernel_rfl))
  f49 := ⟨Tryz.f336.name, by decide, Tryz.func336.trans (congrArg some (by kernel_rfl))⟩
  f50 := ⟨Tryz.f337.name, by decide, Tryz.func337.trans (congrArg some (by kernel_rfl))⟩
  f57 := ⟨Tryz.f350.name, by decide, Tryz.func350.trans (congrArg some (by kernel_rfl))⟩
  t0 := Tryz.underlying0
  a0 := Tryz.isAgg0
  z0 := Tryz.sizeOf0
  v0 := Tryz.zeroValue0
  t3 := Tryz.underlying3
  a3 := Tryz.isAgg3
  z3 := Tryz.sizeOf3
  v3 := Tryz.zeroValue3
  t4 := Tryz.underlying4
  a4 := Tryz.isAgg4
  z4 := Tryz.sizeOf4
  v4 := Tryz.zeroValue4
  t5 := Tryz.underlying5
  a5 := Tryz.isAgg5
  z5 := Tryz.sizeOf5
  v5 := Tryz.zeroValue5
  t9 := Tryz.underlying9
  a9 := Tryz.isAgg9
  z9 := Tryz.sizeOf9
  v9 := Tryz.zeroValue9
  t22 := Tryz.underlying67
  a22 := Tryz.isAgg67
  z22 := Tryz.sizeOf67
  v22 := Tryz.zeroValue67
  t25 := Tryz.underlying249
  a25 := Tryz.isAgg249
  z25 := Tryz.sizeOf249
  v25 := Tryz.zeroValue249
  t39 := Tryz.underlying315
  a39 := Tryz.isAgg315
  z39 := Tryz.sizeOf315
  v39 := Tryz.zeroValue315
  t45 := Tryz.underlying330
  a45 := Tryz.isAgg330
  z45 := Tryz.sizeOf330
  v45 := Tryz.zeroValue330
  t46 := Tryz.underlying331
  a46 := Tryz.isAgg331
  z46 := Tryz.sizeOf331
  v46 := Tryz.zeroValue331
  t50 := Tryz.underlying103
  a50 := Tryz.isAgg103
  z50 := Tryz.sizeOf103
  v50 := Tryz.zeroValue103
  t53 := Tryz.underlying337
  a53 := Tryz.isAgg337
  z53 := Tryz.sizeOf337
  v53 := Tryz.zeroValue337
  t55 := Tryz.underlying339
  a55 := Tryz.isAgg339
  z55 := Tryz.sizeOf339
  v55 := Tryz.zeroValue339
  t66 := Tryz.underlying374
  a66 := Tryz.isAgg374
  z66 := Tryz.sizeOf374
  v66 := Tryz.zeroValue374
  t70 := Tryz.underlying378
  a70 := Tryz.isAgg378
  z70 := Tryz.sizeOf378
  v70 := Tryz.zeroValue378
  t76 := Tryz.underlying392
  a76 := Tryz.isAgg392
  z76 := Tryz.sizeOf392
  v76 := Tryz.zeroValue392
  t77 := Tryz.underlying393
  a77 := Tryz.isAgg393
  z77 := Tryz.sizeOf393
  v77 := Tryz.zeroValue393 }
def Tryz.laysSlF06_f227_ren : Go.Shelf.Ren := ⟨fun | 6 => 227 | 15 => 250 | 14 => 257 | 28 => 272 | 29 => 273 | 20 => 298 | 21 => 299 | 22 => 300 | 23 => 301 | 24 => 302 | 25 => 303 | 26 => 304 | 27 => 305 | 46 => 338 | 47 => 325 | 48 => 326 | 49 => 339 | 50 => 340 | 57 => 351 | n => n, fun | 22 => 70 | 24 => 53 | 25 => 252 | 3 => 3 | 39 => 315 | 0 => 0 | 53 => 337 | 55 => 339 | 4 => 4 | 46 => 331 | 45 => 330 | 50 => 103 | 5 => 5 | 9 => 9 | 66 => 374 | 70 => 378 | 76 => 392 | 77 => 393 | n => n, fun | n => n⟩
theorem Tryz.laysSlF06_f227 : Go.Proofs.SlLaysF0.n6 Tryz.prog Tryz.laysSlF06_f227_ren := {
  mixed := by kernel_rfl
  f6 := ⟨Tryz.f227.name, by decide, Tryz.func227.trans (congrArg some (by kernel_rfl))⟩
  f14 := ⟨Tryz.f257.name, by decide, Tryz.func257.trans (congrArg some (by kernel_rfl))⟩
  f15 := Tryz.func250.trans (congrArg some (by kernel_rfl))
  f20 := ⟨Tryz.f298.name, by decide, Tryz.func298.trans (congrArg some (by kernel_rfl))⟩
  f21 := ⟨Tryz.f299.name, by decide, Tryz.func299.trans (congrArg some (by kernel_rfl))⟩
  f22 := ⟨Tryz.f300.name, by decide, Tryz.func300.trans (congrArg some (by kernel_rfl))⟩
  f23 := ⟨Tryz.f301.name, by decide, Tryz.func301.trans (congrArg some (by kernel_rfl))⟩
  f24 := ⟨Tryz.f302.name, by decide, Tryz.func302.trans (congrArg some (by kernel_rfl))⟩
  f25 := ⟨Tryz.f303.name, by decide, Tryz.func303.trans (congrArg some (by kernel_rfl))⟩
  f26 := ⟨Tryz.f304.name, by decide, Tryz.func304.trans (congrArg some (by kernel_rfl))⟩
  f27 := ⟨Tryz.f305.name, by decide, Tryz.func305.trans (congrArg some (by kernel_rfl))⟩
  f28 := Tryz.func272.trans (congrArg some (by kernel_rfl))
  f29 := Tryz.func273.trans (congrArg some (by kernel_rfl))
  f46 := ⟨Tryz.f338.name, by decide, Tryz.func338.trans (congrArg some (by kernel_rfl))⟩
  f47 := Tryz.func325.trans (congrArg some (by kernel_rfl))
  f48 := Tryz.func326.trans (congrArg some (by kernel_rfl))
  f49 := ⟨Tryz.f339.name, by decide, Tryz.func339.trans (congrArg some (by kernel_rfl))⟩
  f50 := ⟨Tryz.f340.name, by decide, Tryz.func340.trans (congrArg some (by kernel_rfl))⟩
  f57 := ⟨Tryz.f351.name, by decide, Tryz.func351.trans (congrArg some (by kernel_rfl))⟩
  t0 := Tryz.underlying0
  a0 := Tryz.isAgg0
  z0 := Tryz.sizeOf0
  v0 := Tryz.zeroValue0
  t3 := Tryz.underlying3
  a3 := Tryz.isAgg3
  z3 := Tryz.sizeOf3
  v3 := Tryz.zeroValue3
  t4 := Tryz.underlying4
  a4 := Tryz.isAgg4
  z4 := Tryz.sizeOf4
  v4 := Tryz.zeroValue4
  t5 := Tryz.underlying5
  a5 := Tryz.isAgg5
  z5 := Tryz.sizeOf5
  v5 := Tryz.zeroValue5
  t9 := Tryz.underlying9
  a9 := Tryz.isAgg9
  z9 := Tryz.sizeOf9
  v9 := Tryz.zeroValue9
  t22 := Tryz.underlying70
  a22 := Tryz.isAgg70
  z22 := Tryz.sizeOf70
  v22 := Tryz.zeroValue70
  t25 := Tryz.underlying252
  a25 := Tryz.isAgg252
  z25 := Tryz.sizeOf252
  v25 := Tryz.zeroValue252
  t39 := Tryz.underlying315
  a39 := Tryz.isAgg315
  z39 := Tryz.sizeOf315
  v39 := Tryz.zeroValue315
  t45 := Tryz.underlying330
  a45 := Tryz.isAgg330
  z45 := Tryz.sizeOf330
  v45 := Tryz.zeroValue330
  t46 := Tryz.underlying331
  a46 := Tryz.isAgg331
  z46 := Tryz.sizeOf331
  v46 := Tryz.zeroValue331
  t50 := Tryz.underlying103
  a50 := Tryz.isAgg103
  z50 := Tryz.sizeOf103
  v50 := Tryz.zeroValue103
  t53 := Tryz.underlying337
  a53 := Tryz.isAgg337
  z53 := Tryz.sizeOf337
  v53 := Tryz.zeroValue337
  t55 := Tryz.underlying339
  a55 := Tryz.isAgg339
  z55 := Tryz.sizeOf339
  v55 := Tryz.zeroValue339
  t66 := Tryz.underlying374
  a66 := Tryz.isAgg374
  z66 := Tryz.sizeOf374
  v66 := Tryz.zeroValue374
  t70 := Tryz.underlying378
  a70 := Tryz.isAgg378
  z70 := Tryz.sizeOf378
  v70 := Tryz.zeroValue378
  t76 := Tryz.underlying392
  a76 := Tryz.isAgg392
  z76 := Tryz.sizeOf392
  v76 := Tryz.zeroValue392
  t77 := Tryz.underlying393
  a77 := Tryz.isAgg393
  z77 := Tryz.sizeOf393
  v77 := Tryz.zeroValue393 }
def Tryz.laysSlF06_f230_ren : Go.Shelf.Ren := ⟨fun | 6 => 230 | 15 => 250 | 14 => 259 | 28 => 272 | 29 => 273 | 20 => 306 | 21 => 307 | 22 => 308 | 23 => 309 | 24 => 310 | 25 => 311 | 26 => 312 | 27 => 313 | 46 => 341 | 47 => 325 | 48 => 326 | 49 => 342 | 50 => 343 | 57 => 352 | n => n, fun | 22 => 24 | 24 => 93 | 25 => 257 | 3 => 3 | 39 => 315 | 0 => 0 | 53 => 337 | 55 => 339 | 4 => 4 | 46 => 331 | 45 => 330 | 50 => 103 | 5 => 5 | 9 => 9 | 66 => 374 | 70 => 378 | 76 => 392 | 77 => 393 | n => n, fun | n => n⟩
theorem Tryz.laysSlF06_f230 : Go.Proofs.SlLaysF0.n6 Tryz.prog Tryz.laysSlF06_f230_ren := {
  mixed := by kernel_rfl
  f6 := ⟨Tryz.f230.name, by decide, Tryz.func230.trans (congrArg some (by kernel_rfl))⟩
  f14 := ⟨Tryz.f259.name, by decide, Tryz.func259.trans (congrArg some (by kernel_rfl))⟩
  f15 := Tryz.func250.trans (congrArg some (by kernel_rfl))
  f20 := ⟨Tryz.f306.name, by decide, Tryz.func306.trans (congrArg some (by kernel_rfl))⟩
  f21 := ⟨Tryz.f307.name, by decide, Tryz.func307.trans (congrArg some (by kernel_rfl))⟩
  f22 := ⟨Tryz.f308.name, by decide, Tryz.func308.trans (congrArg some (by kernel_rfl))⟩
  f23 := ⟨Tryz.f309.name, by decide, Tryz.func309.trans (congrArg some (by kernel_rfl))⟩
  f24 := ⟨Tryz.f310.name, by decide, Tryz.func310.trans (congrArg some (by kernel_rfl))⟩
  f25 := ⟨Tryz.f311.name, by decide, Tryz.func311.trans (congrArg some (by kernel_rfl))⟩
  f26 := ⟨Tryz.f312.name, by decide, Tryz.func312.trans (congrArg some (by kernel_rfl))⟩
  f27 := ⟨Tryz.f313.name, by decide, Tryz.func313.trans (congrArg some (by kernel_rfl))⟩
  f28 := Tryz.func272.trans (congrArg some (by kernel_rfl))
  f29 := Tryz.func273.trans (congrArg some (by kernel_rfl))
  f46 := ⟨Tryz.f341.name, by decide, Tryz.func341.trans (congrArg some (by kernel_rfl))⟩
  f47 := Tryz.func325.trans (congrArg some (by kernel_rfl))
  f48 := Tryz.func326.trans (congrArg some (by kernel_rfl))
  f49 := ⟨Tryz.f342.name, by decide, Tryz.func342.trans (congrArg some (by kernel_rfl))⟩
  f50 := ⟨Tryz.f343.name, by decide, Tryz.func343.trans (congrArg some (by kernel_rfl))⟩
  f57 := ⟨Tryz.f352.name, by decide, Tryz.func352.trans (congrArg some (by kernel_rfl))⟩
  t0 := Tryz.underlying0
  a0 := Tryz.isAgg0
  z0 := Tryz.sizeOf0
  v0 := Tryz.zeroValue0
  t3 := Tryz.underlying3
  a3 := Tryz.isAgg3
  z3 := Tryz.sizeOf3
  v3 := Tryz.zeroValue3
  t4 := Tryz.underlying4
  a4 := Tryz.isAgg4
  z4 := Tryz.sizeOf4
  v4 := Tryz.zeroValue4
  t5 := Tryz.underlying5
  a5 := Tryz.isAgg5
  z5 := Tryz.sizeOf5
  v5 := Tryz.zeroValue5
  t9 := Tryz.underlying9
  a9 := Tryz.isAgg9
  z9 := Tryz.sizeOf9
  v9 := Tryz.zeroValue9
  t22 := Tryz.underlying24
  a22 := Tryz.isAgg24
  z22 := Tryz.sizeOf24
  v22 := Tryz.zeroValue24
  t25 := Tryz.underlying257
  a25 := Tryz.isAgg257
  z25 := Tryz.sizeOf257
  v25 := Tryz.zeroValue257
  t39 := Tryz.underlying315
  a39 := Tryz.isAgg315
  z39 := Tryz.sizeOf315
  v39 := Tryz.zeroValue315
  t45 := Tryz.underlying330
  a45 := Tryz.isAgg330
  z45 := Tryz.sizeOf330
  v45 := Tryz.zeroValue330
  t46 := Tryz.underlying331
  a46 := Tryz.isAgg331
  z46 := Tryz.sizeOf331
  v46 := Tryz.zeroValue331
  t50 := Tryz.underlying103
  a50 := Tryz.isAgg103
  z50 := Tryz.sizeOf103
  v50 := Tryz.zeroValue103
  t53 := Tryz.underlying337
  a53 := Tryz.isAgg337
  z53 := Tryz.sizeOf337
  v53 := Tryz.zeroValue337
  t55 := Tryz.underlying339
  a55 := Tryz.isAgg339
  z55 := Tryz.sizeOf339
  v55 := Tryz.zeroValue339
  t66 := Tryz.underlying374
  a66 := Tryz.isAgg374
  z66 := Tryz.sizeOf374
  v66 := Tryz.zeroValue374
  t70 := Tryz.underlying378
  a70 := Tryz.isAgg378
  z70 := Tryz.sizeOf378
  v70 := Tryz.zeroValue378
  t76 := Tryz.underlying392
  a76 := Tryz.isAgg392
  z76 := Tryz.sizeOf392
  v76 := Tryz.zeroValue392
  t77 := Tryz.underlying393
  a77 := Tryz.isAgg393
  z77 := Tryz.sizeOf393
  v77 := Tryz.zeroValue393 }
def Tryz.laysSlF06_f232_ren : Go.Shelf.Ren := ⟨fun | 6 => 232 | 15 => 250 | 14 => 260 | 28 => 272 | 29 => 273 | 20 => 314 | 21 => 315 | 22 => 316 | 23 => 317 | 24 => 318 | 25 => 319 | 26 => 320 | 27 => 321 | 46 => 344 | 47 => 325 | 48 => 326 | 49 => 345 | 50 => 346 | 57 => 353 | n => n, fun | 22 => 22 | 24 => 57 | 25 => 262 | 3 => 3 | 39 => 315 | 0 => 0 | 53 => 337 | 55 => 339 | 4 => 4 | 46 => 331 | 45 => 330 | 50 => 103 | 5 => 5 | 9 => 9 | 66 => 374 | 70 => 378 | 76 => 392 | 77 => 393 | n => n, fun | n => n⟩
theorem Tryz.laysSlF06_f232 : Go.Proofs.SlLaysF0.n6 Tryz.prog Tryz.laysSlF06_f232_ren := {
  mixed := by kernel_rfl
  f6 := ⟨Tryz.f232.name, by decide, Tryz.func232.trans (congrArg some (by kernel_rfl))⟩
  f14 := ⟨Tryz.f260.name, by decide, Tryz.func260.trans (congrArg some (by kernel_rfl))⟩
  f15 := Tryz.func250.trans (congrArg some (by kernel_rfl))
  f20 := ⟨Tryz.f314.name, by decide, Tryz.func314.trans (congrArg some (by kernel_rfl))⟩
  f21 := ⟨Tryz.f315.name, by decide, Tryz.func315.trans (congrArg some (by kernel_rfl))⟩
  f22 := ⟨Tryz.f316.name, by decide, Tryz.func316.trans (congrArg some (by kernel_rfl))⟩
  f23 := ⟨Tryz.f317.name, by decide, Tryz.func317.trans (congrArg some (by kernel_rfl))⟩
  f24 := ⟨Tryz.f318.name, by decide, Tryz.func318.trans (congrArg some (by kernel_rfl))⟩
  f25 := ⟨Tryz.f319.name, by decide, Tryz.func319.trans (congrArg some (by kernel_rfl))⟩
  f26 := ⟨Tryz.f320.name, by decide, Tryz.func320.trans (congrArg some (by kernel_rfl))⟩
  f27 := ⟨Tryz.f321.name, by decide, Tryz.func321.trans (congrArg some (by kernel_rfl))⟩
  f28 := Tryz.func272.trans (congrArg some (by kernel_rfl))
  f29 := Tryz.func273.trans (congrArg some (by kernel_rfl))
  f46 := ⟨Tryz.f344.name, by decide, Tryz.func344.trans (congrArg some (by kernel_rfl))⟩
  f47 := Tryz.func325.trans (congrArg some (by kernel_rfl))
  f48 := Tryz.func326.trans (congrArg some (by kernel_rfl))
  f49 := ⟨Tryz.f345.name, by decide, Tryz.func345.trans (congrArg some (by kernel_rfl))⟩
  f50 := ⟨Tryz.f346.name, by decide, Tryz.func346.trans (congrArg some (by kernel_rfl))⟩
  f57 := ⟨Tryz.f353.name, by decide, Tryz.func353.trans (congrArg some (by kernel_rfl))⟩
  t0 := Tryz.underlying0
  a0 := Tryz.isAgg0
  z0 := Tryz.sizeOf0
  v0 := Tryz.zeroValue0
  t3 := Tryz.underlying3
  a3 := Tryz.isAgg3
  z3 := Tryz.sizeOf3
  v3 := Tryz.zeroValue3
  t4 := Tryz.underlying4
  a4 := Tryz.isAgg4
  z4 := Tryz.sizeOf4
  v4 := Tryz.zeroValue4
  t5 := Tryz.underlying5
  a5 := Tryz.isAgg5
  z5 := Tryz.sizeOf5
  v5 := Tryz.zeroValue5
  t9 := Tryz.underlying9
  a9 := Tryz.isAgg9
  z9 := Tryz.sizeOf9
  v9 := Tryz.zeroValue9
  t22 := Tryz.underlying22
  a22 := Tryz.isAgg22
  z22 := Tryz.sizeOf22
  v22 := Tryz.zeroValue22
  t25 := Tryz.underlying262
  a25 := Tryz.isAgg262
  z25 := Tryz.sizeOf262
  v25 := Tryz.zeroValue262
  t39 := Tryz.underlying315
  a39 := Tryz.isAgg315
  z39 := Tryz.sizeOf315
  v39 := Tryz.zeroValue315
  t45 := Tryz.underlying330
  a45 := Tryz.isAgg330
  z45 := Tryz.sizeOf330
  v45 := Tryz.zeroValue330
  t46 := Tryz.underlying331
  a46 := Tryz.isAgg331
  z46 := Tryz.sizeOf331
  v46 := Tryz.zeroValue331
  t50 := Tryz.underlying103
  a50 := Tryz.isAgg103
  z50 := Tryz.sizeOf103
  v50 := Tryz.zeroValue103
  t53 := Tryz.underlying337
  a53 := Tryz.isAgg337
  z53 := Tryz.sizeOf337
  v53 := Tryz.zeroValue337
  t55 := Tryz.underlying339
  a55 := Tryz.isAgg339
  z55 := Tryz.sizeOf339
  v55 := Tryz.zeroValue339
  t66 := Tryz.underlying374
  a66 := Tryz.isAgg374
  z66 := Tryz.sizeOf374
  v66 := Tryz.zeroValue374
  t70 := Tryz.underlying378
  a70 := Tryz.isAgg378
  z70 := Tryz.sizeOf378
  v70 := Tryz.zeroValue378
  t76 := Tryz.underlying392
  a76 := Tryz.isAgg392
  z76 := Tryz.sizeOf392
  v76 := Tryz.zeroValue392
  t77 := Tryz.underlying393
  a77 := Tryz.isAgg393
  z77 := Tryz.sizeOf393
  v77 := Tryz.zeroValue393 }
end Go.Proofs

