/-
  A part of the proof that a law of dryweightlaw03 answers true: lemmas of a symbolic walk, plain functions, or contracts of the functions walked (Xf, Xg, Xh). Conditions: none.
-/
import Derived.Test.YtjjfadfmdodmnaaPart24
import Derived.Test.YtjjfadfmdodmnaaPart21
set_option maxRecDepth 100000
set_option linter.unusedVariables false
set_option linter.unusedSimpArgs false
namespace Go.Proofs
open Go.Sx

def shiftI (n : Nat) (p : Int) : Int := if 0 ≤ p then p + n else p
def shiftL (n : Nat) (l : Lnk) : Lnk := ⟨shiftI n l.f, shiftI n l.t, l.m, l.i⟩

def mergeF (bs : List (Int × Int)) (ls : List Lnk) (bt : List (Int × Int)) (lt : List Lnk) : List (Int × Int) × List Lnk × Int :=
  if checkF bs ls ≠ 0 then ([], [], checkF bs ls) else if checkF bt lt ≠ 0 then ([], [], checkF bt lt) else
  if 240 < bs.length + bt.length ∨ 1200 < ls.length + lt.length then ([], [], 2) else (bs ++ bt, ls ++ lt.map (shiftL bs.length), 0)

abbrev sysA2 (n m n' m' : Nat) : List SV := [.agg [.s 0 0 n 2, .s 1 0 m 4], .agg [.s 2 0 n' 2, .s 3 0 m' 4]]
abbrev sysH2 (bs : List (Int × Int)) (ls : List Lnk) (bt : List (Int × Int)) (lt : List Lnk) : Heap := sysH bs ls ++ [(2, false, .arr (aSpan bt)), (3, false, .arr (aLink lt))]

abbrev mergeT (f : FuncId) (bs : List (Int × Int)) (ls : List Lnk) (bt : List (Int × Int)) (lt : List Lnk) (R : List (Int × Int) × List Lnk × Int) : Prop :=
  Triple Try.prog f (sysA2 bs.length ls.length bt.length lt.length) (sysH2 bs ls bt lt) 4 (.tup [.inr [.s 4 0 R.1.length 2, .s 5 0 R.2.1.length 4], .inl (.v (.int .i64 R.2.2))])
    [(4, true, .arr (aSpan R.1)), (5, true, .arr (aLink R.2.1))]

theorem set_mid {α : Type} (a : List α) (x y : α) (r : List α) : (a ++ x :: r).set a.length y = a ++ y :: r := by
  rw [List.set_append_right _ _ (Nat.le_refl _), Nat.sub_self]; rfl

theorem merge_t (bs : List (Int × Int)) (ls : List Lnk) (bt : List (Int × Int)) (lt : List Lnk) (hb : bs.length ≤ 1000000) (hl : ls.length ≤ 1000000) (hb' : bt.length ≤ 1000000) (hl' : lt.length ≤ 1000000) :
    mergeT 56 bs ls bt lt (mergeF bs ls bt lt) := by
  have hF : mergeF bs ls bt lt = if checkF bs ls ≠ 0 then ([], [], checkF bs ls) else if checkF bt lt ≠ 0 then ([], [], checkF bt lt) else
    if 240 < bs.length + bt.length ∨ 1200 < ls.length + lt.length then ([], [], 2) else (bs ++ bt, ls ++ lt.map (shiftL bs.length), 0) := rfl
  generalize mergeF bs ls bt lt = R at *
  refine triple_of tB_ok Try.func56 rfl Try.call56 rfl ?_
  intro ρ w hH
  conv => whnf
  refine bsN_step tB_ok (aRows 2 [0, 1, 2, 3] [[.s 0 0 bs.length 2, .s 1 0 ls.length 4], [.s 2 0 bt.length 2, .s 3 0 lt.length 4]]) rfl ?_
  conv => whnf
  refine ⟨(by repeat' (first | exact trivial | exact rfl | refine And.intro ?_ ?_ | ((conv => whnf); first | exact trivial | exact rfl | refine And.intro ?_ ?_ | omega))), ?_⟩
  conv => whnf
  refine loop_step tB_ok (G := Nat) 0 [] (fun i => [(18, iv .i64 i)]) (fun _ => []) (fun i => i ≤ 2 ∧ (1 ≤ i → checkF bs ls = 0) ∧ (2 ≤ i → checkF bt lt = 0)) (fun i => 2 - i) ?_
  conv => whnf
  refine ⟨⟨0, ⟨by omega, by omega, by omega⟩, ?_⟩, ?_⟩
  · conv => whnf
    repeat' (first | exact trivial | exact rfl | refine And.intro ?_ ?_ | ((conv => whnf); first | exact trivial | exact rfl | refine And.intro ?_ ?_ | omega))
  intro i hi ρ1 t1 hρ1
  obtain ⟨hi, hi1, hi2⟩ := hi
  rcases (by omega : i = 0 ∨ i = 1 ∨ i = 2) with rfl | rfl | rfl
  · conv => whnf
    refine ⟨fun hc => ?_, fun hc => absurd (show decide (((0 : Nat) : Int) < 2) = false from hc) (by decide)⟩
    conv => whnf
    refine ⟨0, rfl, by decide, by show 0 < 2; decide, ?_⟩
    conv => whnf
    refine call_step (check_t bs ls hb hl) rfl rfl ?_
    conv => whnf
    refine ⟨(by repeat' (first | exact trivial | exact rfl | refine And.intro ?_ ?_ | ((conv => whnf); first | exact trivial | exact rfl | refine And.intro ?_ ?_ | omega))), (by repeat' (first | exact trivial | exact rfl | refine And.intro ?_ ?_ | ((conv => whnf); first | exact trivial | exact rfl | refine And.intro ?_ ?_ | omega))), ?_⟩
    conv => whnf
    by_cases h0 : checkF bs ls = 0
    · have h0' := h0
      rw [h0]
      refine ⟨fun hc => absurd hc (by simp), fun hc => ?_⟩
      conv => whnf
      refine ⟨1, rfl, ?_⟩
      refine ⟨1, ⟨by decide, fun _ => rfl, by omega⟩, by show 2 - 1 < 2 - 0; decide, ?_⟩
      conv => whnf
      refine ⟨rfl, ?_⟩
      conv => whnf
      repeat' (first | exact trivial | exact rfl | refine And.intro ?_ ?_ | ((conv => whnf); first | exact trivial | exact rfl | refine And.intro ?_ ?_ | omega))
    · rw [if_pos (by simpa using h0)] at hF
      rw [hF]
      generalize checkF bs ls = c at *
      refine ⟨fun hcc => ?_, fun hcc => absurd (by simpa using hcc) h0⟩
      conv => whnf
      repeat' (first | exact trivial | exact rfl | refine And.intro ?_ ?_ | ((conv => whnf); first | exact trivial | exact rfl | refine And.intro ?_ ?_ | omega))
  · conv => whnf
    refine ⟨fun hc => ?_, fun hc => absurd (show decide (((1 : Nat) : Int) < 2) = false from hc) (by decide)⟩
    conv => whnf
    refine ⟨1, rfl, by decide, by show 1 < 2; decide, ?_⟩
    conv => whnf
    refine call_step (check_t bt lt hb' hl') rfl rfl ?_
    conv => whnf
    refine ⟨(by repeat' (first | exact trivial | exact rfl | refine And.intro ?_ ?_ | ((conv => whnf); first | exact trivial | exact rfl | refine And.intro ?_ ?_ | omega))), (by repeat' (first | exact trivial | exact rfl | refine And.intro ?_ ?_ | ((conv => whnf); first | exact trivial | exact rfl | refine And.intro ?_ ?_ | omega))), ?_⟩
    conv => whnf
    by_cases h1 : checkF bt lt = 0
    · have h1' := h1
      rw [h1]
      refine ⟨fun hc => absurd hc (by simp), fun hc => ?_⟩
      conv => whnf
      refine ⟨2, rfl, ?_⟩
      refine ⟨2, ⟨by decide, fun _ => hi1 (by decide), fun _ => rfl⟩, by show 2 - 2 < 2 - 1; decide, ?_⟩
      conv => whnf
      refine ⟨rfl, ?_⟩
      conv => whnf
      repeat' (first | exact trivial | exact rfl | refine And.intro ?_ ?_ | ((conv => whnf); first | exact trivial | exact rfl | refine And.intro ?_ ?_ | omega))
    · rw [if_neg (by simpa using hi1 (by decide)), if_pos (by simpa using h1)] at hF
      rw [hF]
      generalize checkF bt lt = c at *
      refine ⟨fun hcc => ?_, fun hcc => absurd (by simpa using hcc) h1⟩
      conv => whnf
      repeat' (first | exact trivial | exact rfl | refine And.intro ?_ ?_ | ((conv => whnf); first | exact trivial | exact rfl | refine And.intro ?_ ?_ | omega))
  have h0 := hi1 (by decide)
  have h1 := hi2 (by decide)
  rw [if_neg (by simpa using h0), if_neg (by simpa using h1)] at hF
  have hs := checkF_ok.1 h0
  have ht := checkF_ok.1 h1
  have n1 := hs.nb
  have n2 := hs.nl
  have n3 := ht.nb
  have n4 := ht.nl
  conv => whnf
  refine ⟨fun hc => absurd (show decide (((2 : Nat) : Int) < 2) = true from hc) (by decide), fun hc => ?_⟩
  conv => whnf
  refine bsN_step tB_ok ((aRows 1 [1, 2] [[.s 1 0 bs.length 2], [.s 2 0 bt.length 2]]).ren (rnf [(2, 2), (1, 0), (0, 8)])) rfl ?_
  conv => whnf
  refine ⟨(by repeat' (first | exact trivial | exact rfl | refine And.intro ?_ ?_ | ((conv => whnf); first | exact trivial | exact rfl | refine And.intro ?_ ?_ | omega))), ?_⟩
  conv => whnf
  refine call_step (concatSpan_t bs bt (by omega) (by omega)) rfl rfl ?_
  conv => whnf
  refine ⟨(by repeat' (first | exact trivial | exact rfl | refine And.intro ?_ ?_ | ((conv => whnf); first | exact trivial | exact rfl | refine And.intro ?_ ?_ | omega))), (by repeat' (first | exact trivial | exact rfl | refine And.intro ?_ ?_ | ((conv => whnf); first | exact trivial | exact rfl | refine And.intro ?_ ?_ | omega))), ?_⟩
  conv => whnf
  refine bsN_step tB_ok ((aRows 1 [1, 2] [[.s 1 0 ls.length 4], [.s 2 0 lt.length 4]]).ren (rnf [(2, 3), (1, 1), (0, 10)])) rfl ?_
  conv => whnf
  refine ⟨(by repeat' (first | exact trivial | exact rfl | refine And.intro ?_ ?_ | ((conv => whnf); first | exact trivial | exact rfl | refine And.intro ?_ ?_ | omega))), ?_⟩
  conv => whnf
  refine call_step (concatLink_t ls lt (by omega) (by omega)) rfl rfl ?_
  conv => whnf
  refine ⟨(by repeat' (first | exact trivial | exact rfl | refine And.intro ?_ ?_ | ((conv => whnf); first | exact trivial | exact rfl | refine And.intro ?_ ?_ | omega))), (by repeat' (first | exact trivial | exact rfl | refine And.intro ?_ ?_ | ((conv => whnf); first | exact trivial | exact rfl | refine And.intro ?_ ?_ | omega))), ?_⟩
  conv => whnf
  have hshl : ∀ j, (ls ++ ((lt.take j).map (shiftL bs.length) ++ lt.drop j)).length = ls.length + lt.length := by
    intro j
    have := congrArg List.length (List.take_append_drop j lt)
    rw [List.length_append] at this
    rw [List.length_append, List.length_append, List.length_map]; omega
  refine loop_step tB_ok (G := Nat × List Lnk) 0 [] (fun g => [(11, iv .i64 ((ls.length : Int) + g.1))]) (fun g => [(11, true, .arr (aLink g.2))]) (fun g => g.1 ≤ lt.length ∧ g.2 = ls ++ ((lt.take g.1).map (shiftL bs.length) ++ lt.drop g.1)) (fun g => lt.length - g.1) ?_
  conv => whnf
  refine ⟨⟨(0, ls ++ lt), ⟨Nat.zero_le _, by simp⟩, ?_⟩, ?_⟩
  · conv => whnf
    repeat' (first | exact trivial | exact rfl | refine And.intro ?_ ?_ | ((conv => whnf); first | exact trivial | exact rfl | refine And.intro ?_ ?_ | omega))
    all_goals (show (ls.length : Int) = (ls.length : Int) + ((0 : Nat) : Int); omega)
  rintro ⟨j, L⟩ ⟨hj, hL⟩ ρ2 t2 hρ2
  have hj : j ≤ lt.length := hj
  have hL : L = ls ++ ((lt.take j).map (shiftL bs.length) ++ lt.drop j) := hL
  have hLl : L.length = ls.length + lt.length := by rw [hL]; exact hshl j
  dsimp only
  conv => whnf
  refine ⟨fun hc => ?_, fun hc => ?_⟩
  · have hlt : j < lt.length := by
      have := of_decide_eq_true (show decide ((ls.length : Int) + j < ((ls ++ lt).length : Nat)) = true from hc)
      rw [List.length_append] at this
      omega
    have hix : ls.length + j < L.length := by omega
    have hget : L[ls.length + j] = lt[j] := by
      have hh : L[ls.length + j]? = lt[j]? := by
        rw [hL, List.getElem?_append_right (by omega), List.getElem?_append_right (by simp; omega), List.getElem?_drop]
        congr 1
        simp; omega
      rw [List.getElem?_eq_getElem hix, List.getElem?_eq_getElem hlt] at hh
      exact Option.some.inj hh
    have hset : ∀ x, L.set (ls.length + j) x = (ls ++ (lt.take j).map (shiftL bs.length)) ++ x :: lt.drop (j + 1) := by
      intro x
      have hA : (ls ++ (lt.take j).map (shiftL bs.length)).length = ls.length + j := by simp; omega
      have hL2 : L = (ls ++ (lt.take j).map (shiftL bs.length)) ++ lt[j] :: lt.drop (j + 1) := by
        rw [hL, ← List.append_assoc, ← List.drop_eq_getElem_cons hlt]
      rw [hL2, ← hA]
      exact set_mid _ _ _ _
    have hpr := properF_iff.1 (ht.lnk _ (List.getElem_mem hlt))
    have hnext : L.set (ls.length + j) (shiftL bs.length lt[j]) = ls ++ ((lt.take (j + 1)).map (shiftL bs.length) ++ lt.drop (j + 1)) := by
      rw [hset, take_snoc hlt, List.map_append]
      simp
    have hsi : ∀ p : Int, -1 ≤ p → p ≤ 1000 → -1 ≤ shiftI bs.length p ∧ shiftI bs.length p ≤ 2000 := by
      intro p h1 h2
      unfold shiftI
      split <;> omega
    conv => whnf
    refine ⟨ls.length + j, by omega, by rw [List.length_append]; omega, ?_⟩
    conv => whnf
    refine ⟨ls.length + j, by omega, by rw [List.length_append]; omega, ?_⟩
    conv => whnf
    refine bsN_step tB_ok (aRows 1 [11] [[.p 11 (ls.length + j) 4 0], [.p 11 (ls.length + j) 4 1]]) rfl ?_
    conv => whnf
    refine ⟨(by repeat' (first | exact trivial | exact rfl | refine And.intro ?_ ?_ | ((conv => whnf); first | exact trivial | exact rfl | refine And.intro ?_ ?_ | omega))), ?_⟩
    conv => whnf
    refine loop_step tB_ok (G := Nat × Lnk) 0 [] (fun g => [(67, iv .i64 g.1)]) (fun g => [(11, true, .arr (aLink (L.set (ls.length + j) g.2)))]) (fun g => (g.1 = 0 ∧ g.2 = lt[j]) ∨ (g.1 = 1 ∧ g.2 = ⟨shiftI bs.length lt[j].f, lt[j].t, lt[j].m, lt[j].i⟩) ∨ (g.1 = 2 ∧ g.2 = shiftL bs.length lt[j])) (fun g => 2 - g.1) ?_
    conv => whnf
    refine ⟨⟨(0, lt[j]), .inl ⟨rfl, rfl⟩, ?_⟩, ?_⟩
    · conv => whnf
      repeat' (first | exact trivial | exact rfl | refine And.intro ?_ ?_ | ((conv => whnf); first | exact trivial | exact rfl | refine And.intro ?_ ?_ | omega))
      all_goals (show aLink L = aLink (L.set (ls.length + j) lt[j]); rw [← hget, List.set_getElem_self])
    rintro ⟨k, x⟩ hk ρ3 t3 hρ3
    have hk : (k = 0 ∧ x = lt[j]) ∨ (k = 1 ∧ x = ⟨shiftI bs.length lt[j].f, lt[j].t, lt[j].m, lt[j].i⟩) ∨ (k = 2 ∧ x = shiftL bs.length lt[j]) := hk
    dsimp only
    have hgx : (L.set (ls.length + j) x)[ls.length + j]'(by rw [List.length_set]; exact hix) = x := by rw [List.getElem_set_self]
    have hix2 : ls.length + j < (L.set (ls.length + j) x).length := by rw [List.length_set]; exact hix
    rcases hk with ⟨rfl, hx⟩ | ⟨rfl, hx⟩ | ⟨rfl, hx⟩
    · conv => whnf
      refine ⟨fun hc => ?_, fun hc => absurd (show decide (((0 : Nat) : Int) < 2) = false from hc) (by decide)⟩
      conv => whnf
      refine ⟨0, rfl, by decide, by show 0 < 2; decide, ?_⟩
      conv => whnf
      refine ⟨hix2, ?_⟩
      conv => whnf
      refine ⟨fun hc => ?_, fun hc => ?_⟩
      · have hp : 0 ≤ x.f := by
          have := of_decide_eq_true (show decide (0 ≤ ((L.set (ls.length + j) x)[ls.length + j]'hix2).f) = true from hc)
          rwa [hgx] at this
        have hxf : x.f ≤ 1000 := by rw [hx]; show lt[j].f ≤ 1000; omega
        have he : x.f + bs.length = shiftI bs.length lt[j].f := by
          rw [hx] at hp ⊢
          have hp : 0 ≤ lt[j].f := hp
          show lt[j].f + bs.length = _
          unfold shiftI
          rw [if_pos hp]
        conv => whnf
        refine ⟨hix2, ?_⟩
        conv => whnf
        refine ⟨x.f + bs.length, by show IntKind.i64.wrap (((L.set (ls.length + j) x)[ls.length + j]'hix2).f + bs.length) = _; rw [hgx]; exact wrapId ⟨by omega, by omega⟩, ?_⟩
        conv => whnf
        refine ⟨hix2, ⟨x.f + bs.length, x.t, x.m, x.i⟩, by show _ = splice [.v (.int .i64 ((L.set (ls.length + j) x)[ls.length + j]'hix2).f), .v (.int .i64 ((L.set (ls.length + j) x)[ls.length + j]'hix2).t), .v (.int .i64 ((L.set (ls.length + j) x)[ls.length + j]'hix2).m), .v (.int .i64 ((L.set (ls.length + j) x)[ls.length + j]'hix2).i)] 0 _; rw [hgx]; rfl, ?_⟩
        conv => whnf
        refine ⟨1, rfl, ?_⟩
        refine ⟨(1, ⟨x.f + bs.length, x.t, x.m, x.i⟩), .inr (.inl ⟨rfl, by rw [he, hx]⟩), by show 2 - 1 < 2 - 0; decide, ?_⟩
        conv => whnf
        refine ⟨rfl, ?_⟩
        conv => whnf
        repeat' (first | exact trivial | exact rfl | refine And.intro ?_ ?_ | ((conv => whnf); first | exact trivial | exact rfl | refine And.intro ?_ ?_ | omega))
        all_goals (show aLink ((L.set (ls.length + j) x).set (ls.length + j) _) = aLink (L.set (ls.length + j) _); rw [List.set_set])
      · have hp : ¬ 0 ≤ x.f := by
          have := of_decide_eq_false (show decide (0 ≤ ((L.set (ls.length + j) x)[ls.length + j]'hix2).f) = false from hc)
          rwa [hgx] at this
        have he : x.f = shiftI bs.length lt[j].f := by
          rw [hx] at hp ⊢
          have hp : ¬ 0 ≤ lt[j].f := hp
          show lt[j].f = _
          unfold shiftI
          rw [if_neg hp]
        conv => whnf
        refine ⟨1, rfl, ?_⟩
        refine ⟨(1, x), .inr (.inl ⟨rfl, by rw [← he, hx]⟩), by show 2 - 1 < 2 - 0; decide, ?_⟩
        conv => whnf
        refine ⟨rfl, ?_⟩
        conv => whnf
        repeat' (first | exact trivial | exact rfl | refine And.intro ?_ ?_ | ((conv => whnf); first | exact trivial | exact rfl | refine And.intro ?_ ?_ | omega))
    · conv => whnf
      refine ⟨fun hc => ?_, fun hc => absurd (show decide (((1 : Nat) : Int) < 2) = false from hc) (by decide)⟩
      conv => whnf
      refine ⟨1, rfl, by decide, by show 1 < 2; decide, ?_⟩
      conv => whnf
      refine ⟨hix2, ?_⟩
      conv => whnf
      refine ⟨fun hc => ?_, fun hc => ?_⟩
      · have hp : 0 ≤ x.t := by
          have := of_decide_eq_true (show decide (0 ≤ ((L.set (ls.length + j) x)[ls.length + j]'hix2).t) = true from hc)
          rwa [hgx] at this
        have hxf : x.t ≤ 1000 := by rw [hx]; show lt[j].t ≤ 1000; omega
        have he : x.t + bs.length = shiftI bs.length lt[j].t := by
          rw [hx] at hp ⊢
          have hp : 0 ≤ lt[j].t := hp
          show lt[j].t + bs.length = _
          unfold shiftI
          rw [if_pos hp]
        conv => whnf
        refine ⟨hix2, ?_⟩
        conv => whnf
        refine ⟨x.t + bs.length, by show IntKind.i64.wrap (((L.set (ls.length + j) x)[ls.length + j]'hix2).t + bs.length) = _; rw [hgx]; exact wrapId ⟨by omega, by omega⟩, ?_⟩
        conv => whnf
        refine ⟨hix2, ⟨x.f, x.t + bs.length, x.m, x.i⟩, by show _ = splice [.v (.int .i64 ((L.set (ls.length + j) x)[ls.length + j]'hix2).f), .v (.int .i64 ((L.set (ls.length + j) x)[ls.length + j]'hix2).t), .v (.int .i64 ((L.set (ls.length + j) x)[ls.length + j]'hix2).m), .v (.int .i64 ((L.set (ls.length + j) x)[ls.length + j]'hix2).i)] 1 _; rw [hgx]; rfl, ?_⟩
        conv => whnf
        refine ⟨2, rfl, ?_⟩
        refine ⟨(2, ⟨x.f, x.t + bs.length, x.m, x.i⟩), .inr (.inr ⟨rfl, by rw [he, hx]; rfl⟩), by show 2 - 2 < 2 - 1; decide, ?_⟩
        conv => whnf
        refine ⟨rfl, ?_⟩
        conv => whnf
        repeat' (first | exact trivial | exact rfl | refine And.intro ?_ ?_ | ((conv => whnf); first | exact trivial | exact rfl | refine And.intro ?_ ?_ | omega))
        all_goals (show aLink ((L.set (ls.length + j) x).set (ls.length + j) _) = aLink (L.set (ls.length + j) _); rw [List.set_set])
      · have hp : ¬ 0 ≤ x.t := by
          have := of_decide_eq_false (show decide (0 ≤ ((L.set (ls.length + j) x)[ls.length + j]'hix2).t) = false from hc)
          rwa [hgx] at this
        have he : x.t = shiftI bs.length lt[j].t := by
          rw [hx] at hp ⊢
          have hp : ¬ 0 ≤ lt[j].t := hp
          show lt[j].t = _
          unfold shiftI
          rw [if_neg hp]
        conv => whnf
        refine ⟨2, rfl, ?_⟩
        refine ⟨(2, x), .inr (.inr ⟨rfl, by unfold shiftL; rw [← he, hx]⟩), by show 2 - 2 < 2 - 1; decide, ?_⟩
        conv => whnf
        refine ⟨rfl, ?_⟩
        conv => whnf
        repeat' (first | exact trivial | exact rfl | refine And.intro ?_ ?_ | ((conv => whnf); first | exact trivial | exact rfl | refine And.intro ?_ ?_ | omega))
    · conv => whnf
      refine ⟨fun hc => absurd (show decide (((2 : Nat) : Int) < 2) = true from hc) (by decide), fun hc => ?_⟩
      conv => whnf
      refine ⟨(ls.length : Int) + ((j + 1 : Nat) : Int), by show IntKind.i64.wrap ((ls.length : Int) + j + 1) = _; rw [wrapId ⟨by omega, by omega⟩]; omega, ?_⟩
      refine ⟨(j + 1, L.set (ls.length + j) x), ⟨hlt, by rw [hx]; exact hnext⟩, by show lt.length - (j + 1) < lt.length - j; omega, ?_⟩
      conv => whnf
      refine ⟨rfl, ?_⟩
      conv => whnf
      repeat' (first | exact trivial | exact rfl | refine And.intro ?_ ?_ | ((conv => whnf); first | exact trivial | exact rfl | refine And.intro ?_ ?_ | omega))
  · have hje : j = lt.length := by
      have := of_decide_eq_false (show decide ((ls.length : Int) + j < ((ls ++ lt).length : Nat)) = false from hc)
      rw [List.length_append] at this
      omega
    rw [hje, List.take_length, List.drop_length, List.append_nil] at hL
    conv => whnf
    refine ⟨fun hc => ?_, fun hc => ?_⟩
    · have h3 : 240 < bs.length + bt.length := by
        have := of_decide_eq_true (show decide ((240 : Int) < ((bs ++ bt).length : Nat)) = true from hc)
        rw [List.length_append] at this; omega
      rw [if_pos (.inl h3)] at hF
      rw [hF]
      conv => whnf
      repeat' (first | exact trivial | exact rfl | refine And.intro ?_ ?_ | ((conv => whnf); first | exact trivial | exact rfl | refine And.intro ?_ ?_ | omega))
    have h3 : ¬ 240 < bs.length + bt.length := by
      have := of_decide_eq_false (show decide ((240 : Int) < ((bs ++ bt).length : Nat)) = false from hc)
      rw [List.length_append] at this; omega
    conv => whnf
    refine ⟨fun hc => ?_, fun hc => ?_⟩
    · have h4 : 1200 < ls.length + lt.length := by
        have := of_decide_eq_true (show decide ((1200 : Int) < ((ls ++ lt).length : Nat)) = true from hc)
        rw [List.length_append] at this; omega
      rw [if_pos (.inr h4)] at hF
      rw [hF]
      conv => whnf
      repeat' (first | exact trivial | exact rfl | refine And.intro ?_ ?_ | ((conv => whnf); first | exact trivial | exact rfl | refine And.intro ?_ ?_ | omega))
    · have h4 : ¬ 1200 < ls.length + lt.length := by
        have := of_decide_eq_false (show decide ((1200 : Int) < ((ls ++ lt).length : Nat)) = false from hc)
        rw [List.length_append] at this; omega
      rw [if_neg (by omega)] at hF
      rw [← hL] at hF
      rw [hF]
      conv => whnf
      repeat' (first | exact trivial | exact rfl | refine And.intro ?_ ?_ | ((conv => whnf); first | exact trivial | exact rfl | refine And.intro ?_ ?_ | omega))
      all_goals first | (show (ls ++ lt).length = L.length; rw [hLl, List.length_append]) | rfl

end Go.Proofs

namespace Go.Proofs
open Go.Sx

theorem refMerge_t (bs : List (Int × Int)) (ls : List Lnk) (bt : List (Int × Int)) (lt : List Lnk) (hb : bs.length ≤ 1000000) (hl : ls.length ≤ 1000000) (hb' : bt.length ≤ 1000000) (hl' : lt.length ≤ 1000000) :
    mergeT 57 bs ls bt lt (mergeF bs ls bt lt) := by
  have hF : mergeF bs ls bt lt = if checkF bs ls ≠ 0 then ([], [], checkF bs ls) else if checkF bt lt ≠ 0 then ([], [], checkF bt lt) else
    if 240 < bs.length + bt.length ∨ 1200 < ls.length + lt.length then ([], [], 2) else (bs ++ bt, ls ++ lt.map (shiftL bs.length), 0) := rfl
  generalize mergeF bs ls bt lt = R at *
  refine triple_of tB_ok Try.func57 rfl Try.call57 rfl ?_
  intro ρ w hH
  conv => whnf
  refine call_step (refCheck_t bs ls hb hl) rfl rfl ?_
  conv => whnf
  refine ⟨(by repeat' (first | exact trivial | exact rfl | refine And.intro ?_ ?_ | ((conv => whnf); first | exact trivial | exact rfl | refine And.intro ?_ ?_ | omega))), (by repeat' (first | exact trivial | exact rfl | refine And.intro ?_ ?_ | ((conv => whnf); first | exact trivial | exact rfl | refine And.intro ?_ ?_ | omega))), ?_⟩
  conv => whnf
  refine call_step (refCheck_t bt lt hb' hl') rfl rfl ?_
  conv => whnf
  refine ⟨(by repeat' (first | exact trivial | exact rfl | refine And.intro ?_ ?_ | ((conv => whnf); first | exact trivial | exact rfl | refine And.intro ?_ ?_ | omega))), (by repeat' (first | exact trivial | exact rfl | refine And.intro ?_ ?_ | ((conv => whnf); first | exact trivial | exact rfl | refine And.intro ?_ ?_ | omega))), ?_⟩
  conv => whnf
  by_cases h0 : checkF bs ls = 0
  · have hs := checkF_ok.1 h0
    rw [if_neg (by simpa using h0)] at hF
    rw [h0]
    refine ⟨fun hc => absurd hc (by simp), fun hc => ?_⟩
    conv => whnf
    by_cases h1 : checkF bt lt = 0
    · have ht := checkF_ok.1 h1
      rw [if_neg (by simpa using h1)] at hF
      have n1 := hs.nb
      have n2 := hs.nl
      have n3 := ht.nb
      have n4 := ht.nl
      rw [h1]
      refine ⟨fun hc => absurd hc (by simp), fun hc => ?_⟩
      conv => whnf
      refine ⟨(bs.length : Int) + bt.length, wrapId (z := (bs.length : Int) + bt.length) ⟨by omega, by omega⟩, ?_⟩
      conv => whnf
      refine ⟨fun hc => ?_, fun hc => ?_⟩
      · have h3 : 240 < bs.length + bt.length := by
          have := of_decide_eq_true (show decide ((240 : Int) < (bs.length : Int) + bt.length) = true from hc); omega
        rw [if_pos (.inl h3)] at hF
        rw [hF]
        conv => whnf
        repeat' (first | exact trivial | exact rfl | refine And.intro ?_ ?_ | ((conv => whnf); first | exact trivial | exact rfl | refine And.intro ?_ ?_ | omega))
      have h3 : ¬ 240 < bs.length + bt.length := by
        have := of_decide_eq_false (show decide ((240 : Int) < (bs.length : Int) + bt.length) = false from hc); omega
      conv => whnf
      refine ⟨(ls.length : Int) + lt.length, wrapId (z := (ls.length : Int) + lt.length) ⟨by omega, by omega⟩, ?_⟩
      conv => whnf
      refine ⟨fun hc => ?_, fun hc => ?_⟩
      · have h4 : 1200 < ls.length + lt.length := by
          have := of_decide_eq_true (show decide ((1200 : Int) < (ls.length : Int) + lt.length) = true from hc); omega
        rw [if_pos (.inr h4)] at hF
        rw [hF]
        conv => whnf
        repeat' (first | exact trivial | exact rfl | refine And.intro ?_ ?_ | ((conv => whnf); first | exact trivial | exact rfl | refine And.intro ?_ ?_ | omega))
      have h4 : ¬ 1200 < ls.length + lt.length := by
        have := of_decide_eq_false (show decide ((1200 : Int) < (ls.length : Int) + lt.length) = false from hc); omega
      rw [if_neg (by omega)] at hF
      conv => whnf
      refine bs_step tB_ok (aSpan []) rfl rfl ?_
      conv => whnf
      refine ⟨⟨rfl, trivial⟩, ?_⟩
      conv => whnf
      refine app_step tB_ok (aSpan []) bs (fun _ => rfl) rfl rfl rfl rfl ?_
      conv => whnf
      refine ⟨⟨rfl, rfl, Nat.le_refl _, by rw [Nat.zero_add]; exact Nat.le_refl _, by show (0 + bs.length) * 17 ≤ _; omega⟩, ?_⟩
      conv => whnf
      refine app_step tB_ok (aSpan bs) bt (fun _ => rfl) rfl rfl rfl rfl ?_
      conv => whnf
      refine ⟨⟨congrArg aSpan (appAll (xs := ([] : List (Int × Int)))), rfl, by show 0 + bs.length ≤ bs.length; omega, by rw [Nat.zero_add]; exact Nat.le_refl _, by show (0 + bs.length + bt.length) * 17 ≤ _; omega⟩, ?_⟩
      conv => whnf
      refine bs_step tB_ok (aLink []) rfl rfl ?_
      conv => whnf
      refine ⟨⟨rfl, trivial⟩, ?_⟩
      conv => whnf
      refine app_step tB_ok (aLink []) ls (fun _ => rfl) rfl rfl rfl rfl ?_
      conv => whnf
      refine ⟨⟨rfl, rfl, Nat.le_refl _, by rw [Nat.zero_add]; exact Nat.le_refl _, by show (0 + ls.length) * 33 ≤ _; omega⟩, ?_⟩
      conv => whnf
      refine loop_step tB_ok (G := Nat × List Lnk) 1 [11] (fun g => [(10, iv .i64 g.1)]) (fun g => [(12, true, .cells [.s 9 0 (0 + bs.length + bt.length) 2, .s 13 0 g.2.length 4]), (13, true, .arr (aLink g.2))]) (fun g => g.1 ≤ lt.length ∧ g.2 = ls ++ (lt.take g.1).map (shiftL bs.length)) (fun g => lt.length - g.1) ?_
      conv => whnf
      refine ⟨⟨(0, ls), ⟨Nat.zero_le _, by simp⟩, ?_⟩, ?_⟩
      · conv => whnf
        repeat' (first | exact trivial | exact rfl | refine And.intro ?_ ?_ | ((conv => whnf); first | exact trivial | exact rfl | refine And.intro ?_ ?_ | omega))
        all_goals first | exact Nat.zero_add _ | exact (congrArg aLink (appAll (xs := ([] : List Lnk))) : _)
      rintro ⟨j, L⟩ ⟨hj, hL⟩ ρ2 t2 hρ2
      have hj : j ≤ lt.length := hj
      have hL : L = ls ++ (lt.take j).map (shiftL bs.length) := hL
      have hLl : L.length ≤ ls.length + j := by rw [hL]; simp; omega
      dsimp only
      conv => whnf
      refine ⟨fun hc => ?_, fun hc => ?_⟩
      · have hlt : j < lt.length := by simpa using hc
        have hpr := properF_iff.1 (ht.lnk _ (List.getElem_mem hlt))
        have hnext : ∀ x, x = shiftL bs.length lt[j] → L ++ [x] = ls ++ (lt.take (j + 1)).map (shiftL bs.length) := by
          intro x hx
          rw [hx, hL, take_snoc hlt, List.map_append, List.append_assoc]; rfl
        conv => whnf
        refine ⟨j, rfl, hlt, hlt, ?_⟩
        conv => whnf
        refine ⟨fun hc => ?_, fun hc => ?_⟩
        · have h5 : 0 ≤ lt[j].f := of_decide_eq_true (show decide (0 ≤ lt[j].f) = true from hc)
          have e5 : lt[j].f + bs.length = shiftI bs.length lt[j].f := by unfold shiftI; rw [if_pos h5]
          conv => whnf
          refine ⟨lt[j].f + bs.length, wrapId (z := lt[j].f + bs.length) ⟨by omega, by omega⟩, ?_⟩
          conv => whnf
          refine ⟨fun hc => ?_, fun hc => ?_⟩
          · have h6 : 0 ≤ lt[j].t := of_decide_eq_true (show decide (0 ≤ lt[j].t) = true from hc)
            have e6 : lt[j].t + bs.length = shiftI bs.length lt[j].t := by unfold shiftI; rw [if_pos h6]
            conv => whnf
            refine ⟨lt[j].t + bs.length, wrapId (z := lt[j].t + bs.length) ⟨by omega, by omega⟩, ?_⟩
            conv => whnf
            refine bs_step tB_ok (aLink [⟨lt[j].f + bs.length, lt[j].t + bs.length, lt[j].m, lt[j].i⟩]) rfl rfl ?_
            conv => whnf
            refine ⟨(by repeat' (first | exact trivial | exact rfl | refine And.intro ?_ ?_ | ((conv => whnf); first | exact trivial | exact rfl | refine And.intro ?_ ?_ | omega))), ?_⟩
            conv => whnf
            refine app_step tB_ok (aLink L) [⟨lt[j].f + bs.length, lt[j].t + bs.length, lt[j].m, lt[j].i⟩] (fun _ => rfl) rfl rfl rfl rfl ?_
            conv => whnf
            refine ⟨⟨rfl, rfl, Nat.le_refl _, Nat.le_refl _, by show (L.length + 1) * 33 ≤ _; omega⟩, ?_⟩
            conv => whnf
            refine ⟨(j : Int) + 1, wrapId (z := (j : Int) + 1) ⟨by omega, by omega⟩, ?_⟩
            refine ⟨(j + 1, L ++ [⟨lt[j].f + bs.length, lt[j].t + bs.length, lt[j].m, lt[j].i⟩]), ⟨hlt, hnext _ (by unfold shiftL; rw [← e5, ← e6])⟩, by show lt.length - (j + 1) < lt.length - j; omega, ?_⟩
            conv => whnf
            refine ⟨rfl, ?_⟩
            conv => whnf
            repeat' (first | exact trivial | exact rfl | refine And.intro ?_ ?_ | ((conv => whnf); first | exact trivial | exact rfl | refine And.intro ?_ ?_ | omega))
            all_goals first | exact (congrArg aLink app1 : _) | simp
          · have h6 : ¬ 0 ≤ lt[j].t := of_decide_eq_false (show decide (0 ≤ lt[j].t) = false from hc)
            have e6 : lt[j].t = shiftI bs.length lt[j].t := by unfold shiftI; rw [if_neg h6]
            conv => whnf
            refine bs_step tB_ok (aLink [⟨lt[j].f + bs.length, lt[j].t, lt[j].m, lt[j].i⟩]) rfl rfl ?_
            conv => whnf
            refine ⟨(by repeat' (first | exact trivial | exact rfl | refine And.intro ?_ ?_ | ((conv => whnf); first | exact trivial | exact rfl | refine And.intro ?_ ?_ | omega))), ?_⟩
            conv => whnf
            refine app_step tB_ok (aLink L) [⟨lt[j].f + bs.length, lt[j].t, lt[j].m, lt[j].i⟩] (fun _ => rfl) rfl rfl rfl rfl ?_
            conv => whnf
            refine ⟨⟨rfl, rfl, Nat.le_refl _, Nat.le_refl _, by show (L.length + 1) * 33 ≤ _; omega⟩, ?_⟩
            conv => whnf
            refine ⟨(j : Int) + 1, wrapId (z := (j : Int) + 1) ⟨by omega, by omega⟩, ?_⟩
            refine ⟨(j + 1, L ++ [⟨lt[j].f + bs.length, lt[j].t, lt[j].m, lt[j].i⟩]), ⟨hlt, hnext _ (by unfold shiftL; rw [← e5, ← e6])⟩, by show lt.length - (j + 1) < lt.length - j; omega, ?_⟩
            conv => whnf
            refine ⟨rfl, ?_⟩
            conv => whnf
            repeat' (first | exact trivial | exact rfl | refine And.intro ?_ ?_ | ((conv => whnf); first | exact trivial | exact rfl | refine And.intro ?_ ?_ | omega))
            all_goals first | exact (congrArg aLink app1 : _) | simp
        · have h5 : ¬ 0 ≤ lt[j].f := of_decide_eq_false (show decide (0 ≤ lt[j].f) = false from hc)
          have e5 : lt[j].f = shiftI bs.length lt[j].f := by unfold shiftI; rw [if_neg h5]
          conv => whnf
          refine ⟨fun hc => ?_, fun hc => ?_⟩
          · have h6 : 0 ≤ lt[j].t := of_decide_eq_true (show decide (0 ≤ lt[j].t) = true from hc)
            have e6 : lt[j].t + bs.length = shiftI bs.length lt[j].t := by unfold shiftI; rw [if_pos h6]
            conv => whnf
            refine ⟨lt[j].t + bs.length, wrapId (z := lt[j].t + bs.length) ⟨by omega, by omega⟩, ?_⟩
            conv => whnf
            refine bs_step tB_ok (aLink [⟨lt[j].f, lt[j].t + bs.length, lt[j].m, lt[j].i⟩]) rfl rfl ?_
            conv => whnf
            refine ⟨(by repeat' (first | exact trivial | exact rfl | refine And.intro ?_ ?_ | ((conv => whnf); first | exact trivial | exact rfl | refine And.intro ?_ ?_ | omega))), ?_⟩
            conv => whnf
            refine app_step tB_ok (aLink L) [⟨lt[j].f, lt[j].t + bs.length, lt[j].m, lt[j].i⟩] (fun _ => rfl) rfl rfl rfl rfl ?_
            conv => whnf
            refine ⟨⟨rfl, rfl, Nat.le_refl _, Nat.le_refl _, by show (L.length + 1) * 33 ≤ _; omega⟩, ?_⟩
            conv => whnf
            refine ⟨(j : Int) + 1, wrapId (z := (j : Int) + 1) ⟨by omega, by omega⟩, ?_⟩
            refine ⟨(j + 1, L ++ [⟨lt[j].f, lt[j].t + bs.length, lt[j].m, lt[j].i⟩]), ⟨hlt, hnext _ (by unfold shiftL; rw [← e5, ← e6])⟩, by show lt.length - (j + 1) < lt.length - j; omega, ?_⟩
            conv => whnf
            refine ⟨rfl, ?_⟩
            conv => whnf
            repeat' (first | exact trivial | exact rfl | refine And.intro ?_ ?_ | ((conv => whnf); first | exact trivial | exact rfl | refine And.intro ?_ ?_ | omega))
            all_goals first | exact (congrArg aLink app1 : _) | simp
          · have h6 : ¬ 0 ≤ lt[j].t := of_decide_eq_false (show decide (0 ≤ lt[j].t) = false from hc)
            have e6 : lt[j].t = shiftI bs.length lt[j].t := by unfold shiftI; rw [if_neg h6]
            conv => whnf
            refine bs_step tB_ok (aLink [⟨lt[j].f, lt[j].t, lt[j].m, lt[j].i⟩]) rfl rfl ?_
            conv => whnf
            refine ⟨(by repeat' (first | exact trivial | exact rfl | refine And.intro ?_ ?_ | ((conv => whnf); first | exact trivial | exact rfl | refine And.intro ?_ ?_ | omega))), ?_⟩
            conv => whnf
            refine app_step tB_ok (aLink L) [⟨lt[j].f, lt[j].t, lt[j].m, lt[j].i⟩] (fun _ => rfl) rfl rfl rfl rfl ?_
            conv => whnf
            refine ⟨⟨rfl, rfl, Nat.le_refl _, Nat.le_refl _, by show (L.length + 1) * 33 ≤ _; omega⟩, ?_⟩
            conv => whnf
            refine ⟨(j : Int) + 1, wrapId (z := (j : Int) + 1) ⟨by omega, by omega⟩, ?_⟩
            refine ⟨(j + 1, L ++ [⟨lt[j].f, lt[j].t, lt[j].m, lt[j].i⟩]), ⟨hlt, hnext _ (by unfold shiftL; rw [← e5, ← e6])⟩, by show lt.length - (j + 1) < lt.length - j; omega, ?_⟩
            conv => whnf
            refine ⟨rfl, ?_⟩
            conv => whnf
            repeat' (first | exact trivial | exact rfl | refine And.intro ?_ ?_ | ((conv => whnf); first | exact trivial | exact rfl | refine And.intro ?_ ?_ | omega))
            all_goals first | exact (congrArg aLink app1 : _) | simp
      · have hje : j = lt.length := by simp at hc; omega
        rw [hje, List.take_length] at hL
        rw [← hL] at hF
        rw [hF]
        have e1 : 0 + bs.length + bt.length = (bs ++ bt).length := by simp
        conv => whnf
        repeat' (first | exact trivial | exact rfl | refine And.intro ?_ ?_ | ((conv => whnf); first | exact trivial | exact rfl | refine And.intro ?_ ?_ | omega))
        all_goals first | exact e1 | exact (congrArg aSpan appAll : _) | (show aSpan (List.take (0 + bs.length) bs ++ List.take bt.length (List.drop 0 bt)) = aSpan (bs ++ bt); rw [Nat.zero_add, appAll])
    · rw [if_pos (by simpa using h1)] at hF
      rw [hF]
      generalize checkF bt lt = c at *
      refine ⟨fun hcc => ?_, fun hcc => absurd (by simpa using hcc) h1⟩
      conv => whnf
      repeat' (first | exact trivial | exact rfl | refine And.intro ?_ ?_ | ((conv => whnf); first | exact trivial | exact rfl | refine And.intro ?_ ?_ | omega))
  · rw [if_pos (by simpa using h0)] at hF
    rw [hF]
    generalize checkF bs ls = c at *
    refine ⟨fun hcc => ?_, fun hcc => absurd (by simpa using hcc) h0⟩
    conv => whnf
    repeat' (first | exact trivial | exact rfl | refine And.intro ?_ ?_ | ((conv => whnf); first | exact trivial | exact rfl | refine And.intro ?_ ?_ | omega))

theorem linksEq_t (xs : List Lnk) (hb : xs.length ≤ 1000000) : Triple Try.prog 46 [.c (.s 0 0 xs.length 4), .c (.s 1 0 xs.length 4)] [(0, false, .arr (aLink xs)), (1, false, .arr (aLink xs))] 2 (bv true) [] := linksSame_t xs hb

theorem spansSame_t (xs : List (Int × Int)) (hb : xs.length ≤ 1000000) : Triple Try.prog 58 [.c (.s 0 0 xs.length 2), .c (.s 1 0 xs.length 2)] [(0, false, .arr (aSpan xs)), (1, false, .arr (aSpan xs))] 2 (bv true) [] := by
  refine triple_of tB_ok Try.func58 rfl Try.call58 rfl ?_
  intro ρ w hH
  conv => whnf
  refine ⟨fun hc => absurd hc (by simp), fun hc => ?_⟩
  conv => whnf
  refine loop_step tB_ok (G := Nat) 0 [] (fun i => [(5, iv .i64 i)]) (fun _ => []) (fun i => i ≤ xs.length) (fun i => xs.length - i) ?_
  conv => whnf
  refine ⟨⟨0, Nat.zero_le _, ?_⟩, ?_⟩
  · conv => whnf
    repeat' (first | exact trivial | exact rfl | refine And.intro ?_ ?_ | ((conv => whnf); first | exact trivial | exact rfl | refine And.intro ?_ ?_ | omega))
  intro i hi ρ1 t1 hρ1
  conv => whnf
  refine ⟨fun hc => ?_, fun hc => ?_⟩
  · have h : i < xs.length := by simpa using hc
    conv => whnf
    refine ⟨i, rfl, h, h, ?_⟩
    conv => whnf
    refine ⟨i, rfl, h, h, ?_⟩
    conv => whnf
    refine ⟨fun hc => absurd hc (by simp), fun hc => ?_⟩
    conv => whnf
    refine ⟨_, wrapId ⟨by omega, by omega⟩, ?_⟩
    refine ⟨i + 1, h, by show xs.length - (i + 1) < xs.length - i; omega, ?_⟩
    conv => whnf
    refine ⟨rfl, ?_⟩
    conv => whnf
    repeat' (first | exact trivial | exact rfl | refine And.intro ?_ ?_ | ((conv => whnf); first | exact trivial | exact rfl | refine And.intro ?_ ?_ | omega))
  · conv => whnf
    repeat' (first | exact trivial | exact rfl | refine And.intro ?_ ?_ | ((conv => whnf); first | exact trivial | exact rfl | refine And.intro ?_ ?_ | omega))

theorem mergeF_len {bs : List (Int × Int)} {ls : List Lnk} {bt : List (Int × Int)} {lt : List Lnk} (h1 : bs.length ≤ 1000) (h2 : ls.length ≤ 10000) (h3 : bt.length ≤ 1000) (h4 : lt.length ≤ 10000) : (mergeF bs ls bt lt).1.length ≤ 1000000 ∧ (mergeF bs ls bt lt).2.1.length ≤ 1000000 := by
  unfold mergeF
  split
  · simp
  · split
    · simp
    · split
      · simp
      · simp only [List.length_append, List.length_map]; omega

theorem systemMerges_t (bs : List (Int × Int)) (ls : List Lnk) (bt : List (Int × Int)) (lt : List Lnk) : Triple Try.prog 11 (sysA2 bs.length ls.length bt.length lt.length) (sysH2 bs ls bt lt) 4 (bv true) [] := by
  refine triple_of tB_ok Try.func11 rfl Try.call11 rfl ?_
  intro ρ w hH
  conv => whnf
  refine call_step head_t rfl rfl ?_
  conv => whnf
  refine ⟨(by repeat' (first | exact trivial | exact rfl | refine And.intro ?_ ?_ | ((conv => whnf); first | exact trivial | exact rfl | refine And.intro ?_ ?_ | omega))), (by repeat' (first | exact trivial | exact rfl | refine And.intro ?_ ?_ | ((conv => whnf); first | exact trivial | exact rfl | refine And.intro ?_ ?_ | omega))), ?_⟩
  conv => whnf
  refine call_step (some_t bs ls) rfl rfl ?_
  conv => whnf
  refine ⟨(by repeat' (first | exact trivial | exact rfl | refine And.intro ?_ ?_ | ((conv => whnf); first | exact trivial | exact rfl | refine And.intro ?_ ?_ | omega))), (by repeat' (first | exact trivial | exact rfl | refine And.intro ?_ ?_ | ((conv => whnf); first | exact trivial | exact rfl | refine And.intro ?_ ?_ | omega))), ?_⟩
  conv => whnf
  refine ⟨fun hc => ?_, fun hc => ?_⟩
  · conv => whnf
    repeat' (first | exact trivial | exact rfl | refine And.intro ?_ ?_ | ((conv => whnf); first | exact trivial | exact rfl | refine And.intro ?_ ?_ | omega))
  have h1 : (decide (bs.length ≤ 480) && decide (ls.length ≤ 2400)) = true := by simpa using (show (!(decide (bs.length ≤ 480) && decide (ls.length ≤ 2400))) = false from hc)
  simp only [Bool.and_eq_true, decide_eq_true_eq] at h1
  conv => whnf
  refine call_step (some_t bt lt) rfl rfl ?_
  conv => whnf
  refine ⟨(by repeat' (first | exact trivial | exact rfl | refine And.intro ?_ ?_ | ((conv => whnf); first | exact trivial | exact rfl | refine And.intro ?_ ?_ | omega))), (by repeat' (first | exact trivial | exact rfl | refine And.intro ?_ ?_ | ((conv => whnf); first | exact trivial | exact rfl | refine And.intro ?_ ?_ | omega))), ?_⟩
  conv => whnf
  refine ⟨fun hc => ?_, fun hc => ?_⟩
  · conv => whnf
    repeat' (first | exact trivial | exact rfl | refine And.intro ?_ ?_ | ((conv => whnf); first | exact trivial | exact rfl | refine And.intro ?_ ?_ | omega))
  have h2 : (decide (bt.length ≤ 480) && decide (lt.length ≤ 2400)) = true := by simpa using (show (!(decide (bt.length ≤ 480) && decide (lt.length ≤ 2400))) = false from hc)
  simp only [Bool.and_eq_true, decide_eq_true_eq] at h2
  have hm := mergeF_len (bs := bs) (ls := ls) (bt := bt) (lt := lt) (by omega) (by omega) (by omega) (by omega)
  have m1 := merge_t bs ls bt lt (by omega) (by omega) (by omega) (by omega)
  have m2 := refMerge_t bs ls bt lt (by omega) (by omega) (by omega) (by omega)
  generalize mergeF bs ls bt lt = R at *
  obtain ⟨RB, RL, e⟩ := R
  obtain ⟨hm1, hm2⟩ := hm
  have hm1 : RB.length ≤ 1000000 := hm1
  have hm2 : RL.length ≤ 1000000 := hm2
  conv => whnf
  refine call_step m1 rfl rfl ?_
  conv => whnf
  refine ⟨(by repeat' (first | exact trivial | exact rfl | refine And.intro ?_ ?_ | ((conv => whnf); first | exact trivial | exact rfl | refine And.intro ?_ ?_ | omega))), (by repeat' (first | exact trivial | exact rfl | refine And.intro ?_ ?_ | ((conv => whnf); first | exact trivial | exact rfl | refine And.intro ?_ ?_ | omega))), ?_⟩
  conv => whnf
  refine call_step m2 rfl rfl ?_
  conv => whnf
  refine ⟨(by repeat' (first | exact trivial | exact rfl | refine And.intro ?_ ?_ | ((conv => whnf); first | exact trivial | exact rfl | refine And.intro ?_ ?_ | omega))), (by repeat' (first | exact trivial | exact rfl | refine And.intro ?_ ?_ | ((conv => whnf); first | exact trivial | exact rfl | refine And.intro ?_ ?_ | omega))), ?_⟩
  conv => whnf
  refine call_step (spansSame_t RB hm1) rfl rfl ?_
  conv => whnf
  refine ⟨(by repeat' (first | exact trivial | exact rfl | refine And.intro ?_ ?_ | ((conv => whnf); first | exact trivial | exact rfl | refine And.intro ?_ ?_ | omega))), (by repeat' (first | exact trivial | exact rfl | refine And.intro ?_ ?_ | ((conv => whnf); first | exact trivial | exact rfl | refine And.intro ?_ ?_ | omega))), ?_⟩
  conv => whnf
  refine call_step (linksEq_t RL hm2) rfl rfl ?_
  conv => whnf
  refine ⟨(by repeat' (first | exact trivial | exact rfl | refine And.intro ?_ ?_ | ((conv => whnf); first | exact trivial | exact rfl | refine And.intro ?_ ?_ | omega))), (by repeat' (first | exact trivial | exact rfl | refine And.intro ?_ ?_ | ((conv => whnf); first | exact trivial | exact rfl | refine And.intro ?_ ?_ | omega))), ?_⟩
  conv => whnf
  refine ⟨fun hc => ?_, fun hc => absurd hc (by simp)⟩
  conv => whnf
  refine ⟨fun hc => ?_, fun hc => absurd hc (by simp)⟩
  conv => whnf
  refine ⟨fun hc => ?_, fun hc => absurd hc (by simp)⟩
  conv => whnf
  repeat' (first | exact trivial | exact rfl | refine And.intro ?_ ?_ | ((conv => whnf); first | exact trivial | exact rfl | refine And.intro ?_ ?_ | omega))

end Go.Proofs

namespace Go.Proofs
open Go.Sx

theorem take1_t (id : Int) (l : Lnk) : Triple Try.prog 125 [svL l, .c (.p 1 0 0 0)] [(1, false, .cells [.v (.int .i64 id)])] 2 (bv (l.i == id)) [] := by
  refine triple_of tB_ok Try.func125 rfl Try.call125 rfl ?_
  intro ρ w hH
  conv => whnf
  repeat' (first | exact trivial | exact rfl | refine And.intro ?_ ?_ | ((conv => whnf); first | exact trivial | exact rfl | refine And.intro ?_ ?_ | omega))

abbrev hxTake (id : Int) : Heap := [(1, false, .cells [.v (.int .i64 id)])]

theorem indexTake_t
    (id : Int)
    (xs : List Lnk) (hx : xs.length ≤ 100000) :
    Triple Try.prog 141 [.c (.s 0 0 xs.length 4), .c (.f 125 [1])]
      ((0, false, .arr (aLink xs)) :: hxTake id)
      2 (iv .i64 (idxF (fun l : Lnk => l.i == id) 0 xs)) [] := by
  refine triple_of tB_ok Try.func141 rfl Try.call141 rfl ?_
  intro ρ w hH
  conv => whnf
  refine loop_step tB_ok (G := Nat) 0 [] (fun i => [(8, iv .i64 i)]) (fun i => []) (fun i => i ≤ xs.length ∧ ∀ x ∈ xs.take i, (fun l : Lnk => l.i == id) x = false) (fun i => xs.length - i) ?_
  conv => whnf
  refine ⟨⟨0, ⟨Nat.zero_le _, by simp⟩, ?_⟩, ?_⟩
  · conv => whnf
    repeat' (first | exact trivial | exact rfl | refine And.intro ?_ ?_ | ((conv => whnf); first | exact trivial | exact rfl | refine And.intro ?_ ?_ | omega))
  intro i hi ρ1 t1 hρ1
  obtain ⟨hi, hn⟩ := hi
  conv => whnf
  refine ⟨fun hc => ?_, fun hc => ?_⟩
  · have hc : i < xs.length := by simpa using hc
    have hlt := hc
    conv => whnf
    refine ⟨i, rfl, hc, hc, ?_⟩
    conv => whnf
    refine call_step (take1_t id xs[i]) rfl rfl ?_
    conv => whnf
    refine ⟨(by repeat' (first | exact trivial | exact rfl | refine And.intro ?_ ?_ | ((conv => whnf); first | exact trivial | exact rfl | refine And.intro ?_ ?_ | omega))), (by repeat' (first | exact trivial | exact rfl | refine And.intro ?_ ?_ | ((conv => whnf); first | exact trivial | exact rfl | refine And.intro ?_ ?_ | omega))), ?_⟩
    conv => whnf
    refine ⟨fun hc => ?_, fun hc => ?_⟩
    · conv => whnf
      refine ⟨?_, trivial⟩
      show (i : Int) = idxF (fun l : Lnk => l.i == id) 0 xs
      rw [idxF_at (k := i) hlt hn hc, Nat.zero_add]
    · conv => whnf
      refine ⟨_, wrapId ⟨by omega, by omega⟩, ?_⟩
      refine ⟨i + 1, ⟨by omega, ?_⟩, by show xs.length - (i + 1) < xs.length - i; omega, ?_⟩
      · intro x hxx
        rw [take_snoc hlt] at hxx
        rcases List.mem_append.1 hxx with hxx | hxx
        · exact hn x hxx
        · simp only [List.mem_singleton] at hxx; rw [hxx]; exact hc
      conv => whnf
      refine ⟨rfl, ?_⟩
      conv => whnf
      repeat' (first | exact trivial | exact rfl | refine And.intro ?_ ?_ | ((conv => whnf); first | exact trivial | exact rfl | refine And.intro ?_ ?_ | omega))
  · have hi2 : i = xs.length := by simp at hc; omega
    subst hi2
    rw [List.take_length] at hn
    conv => whnf
    refine ⟨?_, trivial⟩
    show (-1 : Int) = idxF (fun l : Lnk => l.i == id) 0 xs
    rw [idxF_none hn]

theorem deleteTake_t
    (id : Int)
    (xs : List Lnk) (hx : xs.length ≤ 100000) :
    Triple Try.prog 124 [.c (.s 0 0 xs.length 4), .c (.f 125 [1])]
      ((0, true, .arr (aLink xs)) :: hxTake id)
      2 (.c (.s 0 0 (xs.filter fun x => !(fun l : Lnk => l.i == id) x).length 4)) [(0, true, .arr (aLink (xs.filter fun x => !(fun l : Lnk => l.i == id) x)))] := by
  refine triple_of tB_ok Try.func124 rfl Try.call124 rfl ?_
  intro ρ w hH
  conv => whnf
  refine call_step (indexTake_t id xs hx) rfl rfl ?_
  conv => whnf
  refine ⟨(by repeat' (first | exact trivial | exact rfl | refine And.intro ?_ ?_ | ((conv => whnf); first | exact trivial | exact rfl | refine And.intro ?_ ?_ | omega))), (by repeat' (first | exact trivial | exact rfl | refine And.intro ?_ ?_ | ((conv => whnf); first | exact trivial | exact rfl | refine And.intro ?_ ?_ | omega))), ?_⟩
  generalize hp : (fun l : Lnk => l.i == id) = p
  have hdel : ∀ x, (fun l : Lnk => l.i == id) x = p x := fun x => by rw [hp]
  rcases idxF_cases p xs with ⟨hi, hn⟩ | ⟨k, hk, hi, hn, hpk⟩
  · rw [hi]
    conv => whnf
    refine ⟨fun hc => ?_, fun hc => ?_⟩
    · conv => whnf
      have e : (xs.filter fun x => !p x) = xs := List.filter_eq_self.2 fun x hx => by rw [hn x hx]; rfl
      rw [e]
      repeat' (first | exact trivial | exact rfl | refine And.intro ?_ ?_ | ((conv => whnf); first | exact trivial | exact rfl | refine And.intro ?_ ?_ | omega))
    · simp at hc
  rw [hi]
  conv => whnf
  refine ⟨fun hc => ?_, fun hc => ?_⟩
  · exact absurd hc (by simp)
  conv => whnf
  refine ⟨_, wrapId ⟨by omega, by omega⟩, ?_⟩
  have hst := delC_start hk hn hpk
  have hkl : (xs.take k).length = k := by simp; omega
  refine loop_step tB_ok (G := Nat × Nat × List Lnk) 0 [] (fun g => [(6, iv .i64 g.1), (5, iv .i64 g.2.1)]) (fun g => [(0, true, .arr (aLink g.2.2))]) (fun g => (k < g.1 ∧ g.1 ≤ xs.length ∧ g.2.1 < g.1) ∧ g.2.1 = (delL p xs g.1).length ∧ g.2.2 = delC p xs g.1) (fun g => xs.length - g.1) ?_
  conv => whnf
  refine ⟨⟨(k + 1, k, xs), ⟨⟨Nat.lt_succ_self k, hk, Nat.lt_succ_self k⟩, by rw [hst.1, hkl], hst.2.symm⟩, ?_⟩, ?_⟩
  · conv => whnf
    repeat' (first | exact trivial | exact rfl | refine And.intro ?_ ?_ | ((conv => whnf); first | exact trivial | exact rfl | refine And.intro ?_ ?_ | omega))
  rintro ⟨j, k2, C⟩ ⟨⟨hj1, hj2, hj3⟩, hk2e, hCe⟩ ρ1 t1 hρ1
  have hj1 : k < j := hj1
  have hj2 : j ≤ xs.length := hj2
  have hj3 : k2 < j := hj3
  have hk2e : k2 = (delL p xs j).length := hk2e
  have hCe : C = delC p xs j := hCe
  have hCl : C.length = xs.length := by rw [hCe]; exact delC_length p xs j hj2
  have hno : ∀ (h : j < xs.length), p xs[j] = false → k2 + 1 = (delL p xs (j + 1)).length ∧ C.set k2 xs[j] = delC p xs (j + 1) := fun h hp =>
    ⟨by rw [delL_no h hp, hk2e]; simp, by rw [hk2e, hCe]; exact delC_no h hp⟩
  have hyes : ∀ (h : j < xs.length), p xs[j] = true → k2 = (delL p xs (j + 1)).length ∧ C = delC p xs (j + 1) := fun h hp =>
    ⟨by rw [delL_yes h hp]; exact hk2e, by rw [hCe]; exact (delC_yes h hp).symm⟩
  have hgt : ∀ i, j ≤ i → C[i]? = xs[i]? := fun i hi => by rw [hCe]; exact delC_get p xs j i (by omega)
  have hend : j = xs.length → C.take k2 = xs.filter fun x => !p x := fun h => by rw [hCe, hk2e, h]; exact delC_end p xs
  clear hk2e hCe
  conv => whnf
  refine ⟨fun hc => ?_, fun hc => ?_⟩
  · have hc : j < xs.length := by simpa using hc
    have hlt := hc
    have hcl : j < C.length := by omega
    have hget : C[j] = xs[j] := by
      have := hgt j (by omega)
      rw [List.getElem?_eq_getElem hcl, List.getElem?_eq_getElem hlt] at this
      exact Option.some.inj this
    have hpv : (fun l : Lnk => l.i == id) C[j] = p xs[j] := by rw [hdel, hget]
    have hkl2 : k2 < C.length := by omega
    refine ⟨j, rfl, hc, hcl, ?_⟩
    conv => whnf
    refine call_step (take1_t id C[j]) rfl rfl ?_
    conv => whnf
    refine ⟨(by repeat' (first | exact trivial | exact rfl | refine And.intro ?_ ?_ | ((conv => whnf); first | exact trivial | exact rfl | refine And.intro ?_ ?_ | omega))), (by repeat' (first | exact trivial | exact rfl | refine And.intro ?_ ?_ | ((conv => whnf); first | exact trivial | exact rfl | refine And.intro ?_ ?_ | omega))), ?_⟩
    conv => whnf
    refine ⟨fun hc => ?_, fun hc => ?_⟩
    · have hpj : p xs[j] = false := by rw [← hpv]; simpa using hc
      obtain ⟨hl1, e2⟩ := hno hlt hpj
      conv => whnf
      refine ⟨k2, rfl, by omega, hkl2, C[j], rfl, ?_⟩
      conv => whnf
      refine ⟨_, wrapId ⟨by omega, by omega⟩, ?_⟩
      conv => whnf
      refine ⟨_, wrapId ⟨by omega, by omega⟩, ?_⟩
      refine ⟨(j + 1, k2 + 1, C.set k2 C[j]), ⟨⟨by show k < j + 1; omega, hlt, by show k2 + 1 < j + 1; omega⟩, hl1, ?_⟩, by show xs.length - (j + 1) < xs.length - j; omega, ?_⟩
      · rw [hget]; exact e2
      conv => whnf
      refine ⟨rfl, ?_⟩
      conv => whnf
      repeat' (first | exact trivial | exact rfl | refine And.intro ?_ ?_ | ((conv => whnf); first | exact trivial | exact rfl | refine And.intro ?_ ?_ | omega))
    · have hpj : p xs[j] = true := by rw [← hpv]; simpa using hc
      obtain ⟨hl1, e2⟩ := hyes hlt hpj
      conv => whnf
      refine ⟨_, wrapId ⟨by omega, by omega⟩, ?_⟩
      refine ⟨(j + 1, k2, C), ⟨⟨by show k < j + 1; omega, hlt, by show k2 < j + 1; omega⟩, hl1, e2⟩, by show xs.length - (j + 1) < xs.length - j; omega, ?_⟩
      conv => whnf
      refine ⟨rfl, ?_⟩
      conv => whnf
      repeat' (first | exact trivial | exact rfl | refine And.intro ?_ ?_ | ((conv => whnf); first | exact trivial | exact rfl | refine And.intro ?_ ?_ | omega))
  · have hj4 : j = xs.length := by simp at hc; omega
    have he := hend hj4
    have hfl : (xs.filter fun x => !p x).length = k2 := by rw [← he, List.length_take]; omega
    conv => whnf
    refine ⟨Nat.le_refl _, k2, rfl, by omega, ?_⟩
    conv => whnf
    refine clear_step tB_ok rfl rfl rfl rfl ?_
    conv => whnf
    refine ⟨⟨rfl, ?_⟩, ?_⟩
    · show addN 0 _ + subN xs.length _ ≤ C.length
      rw [addN_eq, subN_eq]; omega
    conv => whnf
    refine ⟨k2, rfl, by omega, ?_⟩
    conv => whnf
    refine ⟨Nat.zero_le _, ?_⟩
    conv => whnf
    repeat' (first | exact trivial | exact rfl | refine And.intro ?_ ?_ | ((conv => whnf); first | exact trivial | exact rfl | refine And.intro ?_ ?_ | omega))
    · rw [subN_eq]; omega
    · rw [addN_eq, Nat.zero_add]; exact congrArg aLink he


abbrev hxPut (bs : List (Int × Int)) (ls : List Lnk) : Heap := [(1, false, .cells [.p 2 0 0 0]), (2, false, netC 3 4 bs.length ls.length), (3, false, .arr (aSpan bs)), (4, false, .arr (aLink ls))]

theorem put1_t (bs : List (Int × Int)) (ls : List Lnk) (l : Lnk) (hn : bs.length ≤ 1000000) : Triple Try.prog 110 [svL l, .c (.p 1 0 0 0)] (hxPut bs ls) 5 (bv (!properF l bs.length)) [] := by
  refine triple_of tB_ok Try.func110 rfl Try.call110 rfl ?_
  intro ρ w hH
  conv => whnf
  refine call_step (properF_t l bs.length hn) rfl rfl ?_
  conv => whnf
  refine ⟨(by repeat' (first | exact trivial | exact rfl | refine And.intro ?_ ?_ | ((conv => whnf); first | exact trivial | exact rfl | refine And.intro ?_ ?_ | omega))), (by repeat' (first | exact trivial | exact rfl | refine And.intro ?_ ?_ | ((conv => whnf); first | exact trivial | exact rfl | refine And.intro ?_ ?_ | omega))), ?_⟩
  conv => whnf
  repeat' (first | exact trivial | exact rfl | refine And.intro ?_ ?_ | ((conv => whnf); first | exact trivial | exact rfl | refine And.intro ?_ ?_ | omega))

theorem indexPut_t
    (bs : List (Int × Int)) (ls : List Lnk) (hnn : bs.length ≤ 1000000)
    (xs : List Lnk) (hx : xs.length ≤ 100000) :
    Triple Try.prog 141 [.c (.s 0 0 xs.length 4), .c (.f 110 [1])]
      ((0, false, .arr (aLink xs)) :: hxPut bs ls)
      5 (iv .i64 (idxF (fun l : Lnk => !properF l bs.length) 0 xs)) [] := by
  refine triple_of tB_ok Try.func141 rfl Try.call141 rfl ?_
  intro ρ w hH
  conv => whnf
  refine loop_step tB_ok (G := Nat) 0 [] (fun i => [(8, iv .i64 i)]) (fun i => []) (fun i => i ≤ xs.length ∧ ∀ x ∈ xs.take i, (fun l : Lnk => !properF l bs.length) x = false) (fun i => xs.length - i) ?_
  conv => whnf
  refine ⟨⟨0, ⟨Nat.zero_le _, by simp⟩, ?_⟩, ?_⟩
  · conv => whnf
    repeat' (first | exact trivial | exact rfl | refine And.intro ?_ ?_ | ((conv => whnf); first | exact trivial | exact rfl | refine And.intro ?_ ?_ | omega))
  intro i hi ρ1 t1 hρ1
  obtain ⟨hi, hn⟩ := hi
  conv => whnf
  refine ⟨fun hc => ?_, fun hc => ?_⟩
  · have hc : i < xs.length := by simpa using hc
    have hlt := hc
    conv => whnf
    refine ⟨i, rfl, hc, hc, ?_⟩
    conv => whnf
    refine call_step (put1_t bs ls xs[i] hnn) rfl rfl ?_
    conv => whnf
    refine ⟨(by repeat' (first | exact trivial | exact rfl | refine And.intro ?_ ?_ | ((conv => whnf); first | exact trivial | exact rfl | refine And.intro ?_ ?_ | omega))), (by repeat' (first | exact trivial | exact rfl | refine And.intro ?_ ?_ | ((conv => whnf); first | exact trivial | exact rfl | refine And.intro ?_ ?_ | omega))), ?_⟩
    conv => whnf
    refine ⟨fun hc => ?_, fun hc => ?_⟩
    · conv => whnf
      refine ⟨?_, trivial⟩
      show (i : Int) = idxF (fun l : Lnk => !properF l bs.length) 0 xs
      rw [idxF_at (k := i) hlt hn hc, Nat.zero_add]
    · conv => whnf
      refine ⟨_, wrapId ⟨by omega, by omega⟩, ?_⟩
      refine ⟨i + 1, ⟨by omega, ?_⟩, by show xs.length - (i + 1) < xs.length - i; omega, ?_⟩
      · intro x hxx
        rw [take_snoc hlt] at hxx
        rcases List.mem_append.1 hxx with hxx | hxx
        · exact hn x hxx
        · simp only [List.mem_singleton] at hxx; rw [hxx]; exact hc
      conv => whnf
      refine ⟨rfl, ?_⟩
      conv => whnf
      repeat' (first | exact trivial | exact rfl | refine And.intro ?_ ?_ | ((conv => whnf); first | exact trivial | exact rfl | refine And.intro ?_ ?_ | omega))
  · have hi2 : i = xs.length := by simp at hc; omega
    subst hi2
    rw [List.take_length] at hn
    conv => whnf
    refine ⟨?_, trivial⟩
    show (-1 : Int) = idxF (fun l : Lnk => !properF l bs.length) 0 xs
    rw [idxF_none hn]


theorem contains_t (bs : List (Int × Int)) (ls : List Lnk) (hnn : bs.length ≤ 1000000) (xs : List Lnk) (hx : xs.length ≤ 100000) :
    Triple Try.prog 109 [.c (.s 0 0 xs.length 4), .c (.f 110 [1])] ((0, false, .arr (aLink xs)) :: hxPut bs ls) 5 (bv (!xs.all fun l => properF l bs.length)) [] := by
  refine triple_of tB_ok Try.func109 rfl Try.call109 rfl ?_
  intro ρ w hH
  conv => whnf
  refine call_step (indexPut_t bs ls hnn xs hx) rfl rfl ?_
  conv => whnf
  refine ⟨(by repeat' (first | exact trivial | exact rfl | refine And.intro ?_ ?_ | ((conv => whnf); first | exact trivial | exact rfl | refine And.intro ?_ ?_ | omega))), (by repeat' (first | exact trivial | exact rfl | refine And.intro ?_ ?_ | ((conv => whnf); first | exact trivial | exact rfl | refine And.intro ?_ ?_ | omega))), ?_⟩
  conv => whnf
  refine ⟨?_, trivial⟩
  show decide (0 ≤ idxF (fun l : Lnk => !properF l bs.length) 0 xs) = !xs.all fun l => properF l bs.length
  rcases idxF_cases (fun l : Lnk => !properF l bs.length) xs with ⟨h1, h2⟩ | ⟨k, hk, h1, h2, h3⟩
  · rw [h1]
    have : (xs.all fun l => properF l bs.length) = true := List.all_eq_true.2 fun l hl => by have := h2 l hl; simpa using this
    rw [this]; rfl
  · rw [h1, decide_eq_true (by omega)]
    have h3 : properF xs[k] bs.length = false := by simpa using h3
    have : (xs.all fun l => properF l bs.length) = false := by
      rw [← Bool.not_eq_true, List.all_eq_true]
      intro hh
      have := hh _ (List.getElem_mem hk)
      rw [h3] at this; cases this
    rw [this]; rfl

theorem netLinks_t (bs : List (Int × Int)) (ls : List Lnk) (hl : ls.length ≤ 1000000) : Triple Try.prog 68 [.c (.p 0 0 0 0)] [(0, false, netC 1 2 bs.length ls.length), (1, false, .arr (aSpan bs)), (2, false, .arr (aLink ls))] 3 (.c (.s 3 0 ls.length 4)) [(3, true, .arr (aLink ls))] := by
  refine triple_of tB_ok Try.func68 rfl Try.call68 rfl ?_
  intro ρ w hH
  conv => whnf
  refine call_step (cloneLink_t ls hl) rfl rfl ?_
  conv => whnf
  refine ⟨(by repeat' (first | exact trivial | exact rfl | refine And.intro ?_ ?_ | ((conv => whnf); first | exact trivial | exact rfl | refine And.intro ?_ ?_ | omega))), (by repeat' (first | exact trivial | exact rfl | refine And.intro ?_ ?_ | ((conv => whnf); first | exact trivial | exact rfl | refine And.intro ?_ ?_ | omega))), ?_⟩
  conv => whnf
  repeat' (first | exact trivial | exact rfl | refine And.intro ?_ ?_ | ((conv => whnf); first | exact trivial | exact rfl | refine And.intro ?_ ?_ | omega))

/-- What Take answers. -/
def takeF (ls : List Lnk) (id : Int) : Int := if id = 0 then 1 else if (withoutF ls id).length = ls.length then 5 else 0

theorem takeErr_t (bs : List (Int × Int)) (ls : List Lnk) (id : Int) (hl : ls.length ≤ 100000) (h : takeF ls id ≠ 0) :
    Triple Try.prog 66 [.c (.p 0 0 0 0), iv .i64 id] [(0, true, netC 1 2 bs.length ls.length), (1, false, .arr (aSpan bs)), (2, false, .arr (aLink ls))] 3 (iv .i64 (takeF ls id)) [(0, true, netC 1 2 bs.length ls.length)] := by
  refine triple_of tB_ok Try.func66 rfl Try.call66 rfl ?_
  intro ρ w hH
  conv => whnf
  refine ⟨fun hc => ?_, fun hc => ?_⟩
  · have h0 : id = 0 := by simpa using (show (id == 0) = true from hc)
    have e : takeF ls id = 1 := by unfold takeF; rw [if_pos h0]
    rw [e]
    conv => whnf
    repeat' (first | exact trivial | exact rfl | refine And.intro ?_ ?_ | ((conv => whnf); first | exact trivial | exact rfl | refine And.intro ?_ ?_ | omega))
  have h0 : id ≠ 0 := by simpa using (show (id == 0) = false from hc)
  have hlen : (withoutF ls id).length = ls.length := by
    unfold takeF at h
    rw [if_neg h0] at h
    by_cases hh : (withoutF ls id).length = ls.length
    · exact hh
    · rw [if_neg hh] at h; exact absurd rfl h
  have e : takeF ls id = 5 := by unfold takeF; rw [if_neg h0, if_pos hlen]
  have hfl : (ls.filter fun x => !(x.i == id)) = withoutF ls id := rfl
  conv => whnf
  refine call_step (cloneLink_t ls (by omega)) rfl rfl ?_
  conv => whnf
  refine ⟨(by repeat' (first | exact trivial | exact rfl | refine And.intro ?_ ?_ | ((conv => whnf); first | exact trivial | exact rfl | refine And.intro ?_ ?_ | omega))), (by repeat' (first | exact trivial | exact rfl | refine And.intro ?_ ?_ | ((conv => whnf); first | exact trivial | exact rfl | refine And.intro ?_ ?_ | omega))), ?_⟩
  conv => whnf
  refine call_step (deleteTake_t id ls (by omega)) rfl rfl ?_
  conv => whnf
  refine ⟨(by repeat' (first | exact trivial | exact rfl | refine And.intro ?_ ?_ | ((conv => whnf); first | exact trivial | exact rfl | refine And.intro ?_ ?_ | omega))), (by repeat' (first | exact trivial | exact rfl | refine And.intro ?_ ?_ | ((conv => whnf); first | exact trivial | exact rfl | refine And.intro ?_ ?_ | omega))), ?_⟩
  conv => whnf
  rw [hfl, e]
  refine ⟨fun hc => ?_, fun hc => ?_⟩
  · conv => whnf
    repeat' (first | exact trivial | exact rfl | refine And.intro ?_ ?_ | ((conv => whnf); first | exact trivial | exact rfl | refine And.intro ?_ ?_ | omega))
  · exact absurd (show (((withoutF ls id).length : Int) == ls.length) = false from hc) (by rw [hlen]; simp)

theorem takeOk_t (bs : List (Int × Int)) (ls : List Lnk) (id : Int) (hl : ls.length ≤ 100000) (h : takeF ls id = 0) :
    Triple Try.prog 66 [.c (.p 0 0 0 0), iv .i64 id] [(0, true, netC 1 2 bs.length ls.length), (1, false, .arr (aSpan bs)), (2, false, .arr (aLink ls))] 3 (iv .i64 0) [(0, true, netC 1 3 bs.length (withoutF ls id).length), (3, true, .arr (aLink (withoutF ls id)))] := by
  have h0 : id ≠ 0 := fun hh => by unfold takeF at h; rw [if_pos hh] at h; cases h
  have hlen : (withoutF ls id).length ≠ ls.length := fun hh => by unfold takeF at h; rw [if_neg h0, if_pos hh] at h; cases h
  have hfl : (ls.filter fun x => !(x.i == id)) = withoutF ls id := rfl
  refine triple_of tB_ok Try.func66 rfl Try.call66 rfl ?_
  intro ρ w hH
  conv => whnf
  refine ⟨fun hc => absurd (by simpa using (show (id == 0) = true from hc)) h0, fun hc => ?_⟩
  conv => whnf
  refine call_step (cloneLink_t ls (by omega)) rfl rfl ?_
  conv => whnf
  refine ⟨(by repeat' (first | exact trivial | exact rfl | refine And.intro ?_ ?_ | ((conv => whnf); first | exact trivial | exact rfl | refine And.intro ?_ ?_ | omega))), (by repeat' (first | exact trivial | exact rfl | refine And.intro ?_ ?_ | ((conv => whnf); first | exact trivial | exact rfl | refine And.intro ?_ ?_ | omega))), ?_⟩
  conv => whnf
  refine call_step (deleteTake_t id ls (by omega)) rfl rfl ?_
  conv => whnf
  refine ⟨(by repeat' (first | exact trivial | exact rfl | refine And.intro ?_ ?_ | ((conv => whnf); first | exact trivial | exact rfl | refine And.intro ?_ ?_ | omega))), (by repeat' (first | exact trivial | exact rfl | refine And.intro ?_ ?_ | ((conv => whnf); first | exact trivial | exact rfl | refine And.intro ?_ ?_ | omega))), ?_⟩
  conv => whnf
  rw [hfl]
  refine ⟨fun hc => ?_, fun hc => ?_⟩
  · have := (by simpa using (show (((withoutF ls id).length : Int) == ls.length) = true from hc) : ((withoutF ls id).length : Int) = ls.length)
    omega
  conv => whnf
  repeat' (first | exact trivial | exact rfl | refine And.intro ?_ ?_ | ((conv => whnf); first | exact trivial | exact rfl | refine And.intro ?_ ?_ | omega))

end Go.Proofs

