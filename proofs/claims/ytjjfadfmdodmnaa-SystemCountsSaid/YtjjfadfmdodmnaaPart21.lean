/-
  A part of the proof that a law of dryweightlaw03 answers true: lemmas of a symbolic walk, plain functions, or contracts of the functions walked (Zq). Conditions: none.
-/
import Derived.Test.YtjjfadfmdodmnaaPart20
set_option maxRecDepth 100000
set_option linter.unusedVariables false
set_option linter.unusedSimpArgs false
namespace Go.Proofs
open Go.Sx

theorem tiny_box {bs : List (Int × Int)} {ls : List Lnk} (h : tinyF bs = true) (hs : SysOK bs ls) : bs.length ≤ 3 ∧ 1 ≤ bs.length ∧ ∀ c ∈ bs, c.1 ≤ c.2 := by
  obtain ⟨h1, h2⟩ := tinyF_iff.1 h
  exact ⟨h1.2, h1.1, fun c hc => by have := hs.box c hc; omega⟩

theorem systemCounts_t (bs : List (Int × Int)) (ls : List Lnk) (a : Int) (ha : 0 ≤ a ∧ a < 256) (b : Int) (hb : 0 ≤ b ∧ b < 256) (form den : List (Int × Int)) :
    Triple Try.prog 13 [sysA bs.length ls.length, iv .u8 a, iv .u8 b, .c (.s 2 0 form.length 2), .c (.s 3 0 den.length 2)] (sysH bs ls ++ [(2, false, .arr (aSpan form)), (3, false, .arr (aSpan den))]) 4 (bv true) [] := by
  by_cases hT : tinyF bs = true
  · have hn3 := (tinyF_iff.1 hT).1
    by_cases hl20 : ls.length ≤ 20
    · by_cases hck : checkF bs ls = 0
      · have hs := checkF_ok.1 hck
        obtain ⟨_, _, hlo⟩ := tiny_box hT hs
        by_cases hF : formedB bs.length form 8 = true
        · by_cases hG : formedB bs.length den 8 = true
          · obtain ⟨f1, f2, f3⟩ := formedB_iff.1 hF
            obtain ⟨g1, g2, g3⟩ := formedB_iff.1 hG
            obtain ⟨i1, hi1⟩ : ∃ i1, Int.tmod a ((bs.length : Int) + 1) = i1 ∧ (0 ≤ i1 ∧ i1 < (bs.length : Int) + 1) :=
              ⟨_, rfl, Int.tmod_nonneg _ ha.1, Int.tmod_lt_of_pos a (by omega)⟩
            obtain ⟨k1, hk1⟩ : ∃ k1, Int.tmod b ((bs.length : Int) + 1) = k1 ∧ (0 ≤ k1 ∧ k1 < (bs.length : Int) + 1) :=
              ⟨_, rfl, Int.tmod_nonneg _ hb.1, Int.tmod_lt_of_pos b (by omega)⟩
            obtain ⟨R, hR⟩ : ∃ R, goneF bs ls (i1 - 1) (k1 - 1) form den (manyF bs).toNat (bs.map (·.1)) seen0 = R := ⟨_, rfl⟩
            have hbox := inBox_lo hlo
            have hrk := rank_lo (bs := bs)
            have hrn := rank_nonneg hbox
            have hseen : SeenG bs ls (i1 - 1) (k1 - 1) form den (InBox bs) R := by
              rw [← hR]
              refine goneF_seen hbox (by omega) ((seen_start _ _ _).congr fun q => ⟨fun h => h.elim, fun ⟨⟨h1, h2⟩, _⟩ => ?_⟩)
              have := (rank_nonneg h1).1
              omega
            have hgone := gone_t bs ls (i1 - 1) (k1 - 1) form den hs hn3.2 (by omega) (by omega) ⟨f1, f2⟩ ⟨g1, g2⟩ (manyF bs).toNat (by omega) hlo R hR
            clear hR hbox hrk hrn
            by_cases hcalm : Calm bs ls 0
            · have hw : NetW bs ls := ⟨⟨by omega, by omega⟩, hs, hcalm⟩
              have fF := formedB_formF hF (by omega) (show bs.length ≤ 240 by omega)
              have fG := formedB_formF hG (by omega) (show bs.length ≤ 240 by omega)
              have hsm := seen_some hw hseen
              obtain ⟨e1, e2, e3, e4⟩ := seen_law hw (a := i1 - 1) (b := k1 - 1) ⟨by omega, by omega⟩ ⟨by omega, by omega⟩ hseen
              have hwi : withinF (i1 - 1) (-1) ((bs.length : Int) - 1) = true ∧ withinF (k1 - 1) (-1) ((bs.length : Int) - 1) = true := by simp [withinF]; omega
              have hr := range_t bs ls (i1 - 1) (k1 - 1) hs (by omega) (by omega) hwi.1 hwi.2 R.lo R.hi e1 e2
              obtain ⟨v1, u1, p1, hbf, v1b, _, a1, q1, m1⟩ := best_call hw fF
              obtain ⟨v2, u2, p2, hlf, v2b, _, a2, q2, m2⟩ := least_call hw fF
              have x1 := e3 v1 p1 a1 q1 m1
              have x2 := e4 v2 p2 a2 q2 m2
              rw [x1] at hbf
              rw [x2] at hlf
              clear e1 e2 e3 e4 m1 m2
              have hrf := refForms_t bs ls form den (by omega) (by omega) (by omega)
              by_cases hFo : formsF bs form den = 0
              · rw [hFo] at hrf
                obtain ⟨v, us0, pt0, _, _, _, _, _, hal0, hval0, hm, hcase⟩ := top_cases hw (by omega) (by omega) hFo
                rcases hcase with ⟨hv, hT2⟩ | ⟨hv, p, q, us, pt', hT2, hok, _, _⟩
                · have hlow : R.low = true := by
                    cases hb2 : R.low with
                    | true => rfl
                    | false => have := (hseen.pos hsm hb2 pt0 ⟨allows_inBox hs hal0, hal0⟩).1; omega
                  clear hseen
                  obtain ⟨sm, slo, shi, smo, sle, snu, sde, slw⟩ := R
                  dsimp only at *
                  subst hsm
                  subst hlow
                  refine triple_of tB_ok Try.func13 rfl Try.call13 rfl ?_
                  intro ρ w hH
                  conv => whnf
                  refine call_step head_t rfl rfl ?_
                  conv => whnf
                  refine ⟨(by repeat' (first | exact trivial | exact rfl | refine And.intro ?_ ?_ | ((conv => whnf); first | exact trivial | exact rfl | refine And.intro ?_ ?_ | omega))), (by repeat' (first | exact trivial | exact rfl | refine And.intro ?_ ?_ | ((conv => whnf); first | exact trivial | exact rfl | refine And.intro ?_ ?_ | omega))), ?_⟩
                  conv => whnf
                  refine call_step (tiny_t bs ls) rfl rfl ?_
                  conv => whnf
                  refine ⟨(by repeat' (first | exact trivial | exact rfl | refine And.intro ?_ ?_ | ((conv => whnf); first | exact trivial | exact rfl | refine And.intro ?_ ?_ | omega))), (by repeat' (first | exact trivial | exact rfl | refine And.intro ?_ ?_ | ((conv => whnf); first | exact trivial | exact rfl | refine And.intro ?_ ?_ | omega))), ?_⟩
                  conv => whnf
                  rw [hT]
                  refine ⟨fun hc => absurd hc (by simp), fun hc => ?_⟩
                  conv => whnf
                  refine ⟨fun hc => absurd (of_decide_eq_true (show decide ((20 : Int) < ls.length) = true from hc)) (by omega), fun hc => ?_⟩
                  conv => whnf
                  refine call_step (check_t bs ls (by omega) (by omega)) rfl rfl ?_
                  conv => whnf
                  refine ⟨(by repeat' (first | exact trivial | exact rfl | refine And.intro ?_ ?_ | ((conv => whnf); first | exact trivial | exact rfl | refine And.intro ?_ ?_ | omega))), (by repeat' (first | exact trivial | exact rfl | refine And.intro ?_ ?_ | ((conv => whnf); first | exact trivial | exact rfl | refine And.intro ?_ ?_ | omega))), ?_⟩
                  conv => whnf
                  rw [hck]
                  refine ⟨fun hc => absurd hc (by simp), fun hc => ?_⟩
                  conv => whnf
                  refine call_step (lawFormed_t bs ls form 8 (by omega) (by omega)) rfl rfl ?_
                  conv => whnf
                  refine ⟨(by repeat' (first | exact trivial | exact rfl | refine And.intro ?_ ?_ | ((conv => whnf); first | exact trivial | exact rfl | refine And.intro ?_ ?_ | omega))), (by repeat' (first | exact trivial | exact rfl | refine And.intro ?_ ?_ | ((conv => whnf); first | exact trivial | exact rfl | refine And.intro ?_ ?_ | omega))), ?_⟩
                  conv => whnf
                  rw [hF]
                  refine ⟨fun hc => absurd hc (by simp), fun hc => ?_⟩
                  conv => whnf
                  refine call_step (lawFormed_t bs ls den 8 (by omega) (by omega)) rfl rfl ?_
                  conv => whnf
                  refine ⟨(by repeat' (first | exact trivial | exact rfl | refine And.intro ?_ ?_ | ((conv => whnf); first | exact trivial | exact rfl | refine And.intro ?_ ?_ | omega))), (by repeat' (first | exact trivial | exact rfl | refine And.intro ?_ ?_ | ((conv => whnf); first | exact trivial | exact rfl | refine And.intro ?_ ?_ | omega))), ?_⟩
                  conv => whnf
                  rw [hG]
                  refine ⟨fun hc => absurd hc (by simp), fun hc => ?_⟩
                  conv => whnf
                  refine ⟨a, wrapId ⟨by omega, by omega⟩, ?_⟩
                  conv => whnf
                  refine ⟨(bs.length : Int) + 1, wrapId (z := (bs.length : Int) + 1) ⟨by omega, by omega⟩, ?_⟩
                  conv => whnf
                  refine ⟨(show (bs.length : Int) + 1 ≠ 0 by omega), i1, hi1.1, ?_⟩
                  conv => whnf
                  refine ⟨i1 - 1, wrapId (z := i1 - 1) ⟨by omega, by omega⟩, ?_⟩
                  conv => whnf
                  refine ⟨b, wrapId ⟨by omega, by omega⟩, ?_⟩
                  conv => whnf
                  refine ⟨(bs.length : Int) + 1, wrapId (z := (bs.length : Int) + 1) ⟨by omega, by omega⟩, ?_⟩
                  conv => whnf
                  refine ⟨(show (bs.length : Int) + 1 ≠ 0 by omega), k1, hk1.1, ?_⟩
                  conv => whnf
                  refine ⟨k1 - 1, wrapId (z := k1 - 1) ⟨by omega, by omega⟩, ?_⟩
                  conv => whnf
                  refine call_step hgone rfl rfl ?_
                  conv => whnf
                  refine ⟨(by repeat' (first | exact trivial | exact rfl | refine And.intro ?_ ?_ | ((conv => whnf); first | exact trivial | exact rfl | refine And.intro ?_ ?_ | omega))), (by repeat' (first | exact trivial | exact rfl | refine And.intro ?_ ?_ | ((conv => whnf); first | exact trivial | exact rfl | refine And.intro ?_ ?_ | omega))), ?_⟩
                  conv => whnf
                  refine call_step (conflictNone_t bs ls hs hcalm) rfl rfl ?_
                  conv => whnf
                  refine ⟨(by repeat' (first | exact trivial | exact rfl | refine And.intro ?_ ?_ | ((conv => whnf); first | exact trivial | exact rfl | refine And.intro ?_ ?_ | omega))), (by repeat' (first | exact trivial | exact rfl | refine And.intro ?_ ?_ | ((conv => whnf); first | exact trivial | exact rfl | refine And.intro ?_ ?_ | omega))), ?_⟩
                  conv => whnf
                  refine ⟨fun hc => absurd hc (by simp), fun hc => ?_⟩
                  conv => whnf
                  refine ⟨fun hc => absurd hc (by simp), fun hc => ?_⟩
                  conv => whnf
                  refine ⟨fun hc => absurd hc (by simp), fun hc => ?_⟩
                  conv => whnf
                  refine call_step (newNone_t bs ls hs hcalm) rfl rfl ?_
                  conv => whnf
                  refine ⟨(by repeat' (first | exact trivial | exact rfl | refine And.intro ?_ ?_ | ((conv => whnf); first | exact trivial | exact rfl | refine And.intro ?_ ?_ | omega))), (by repeat' (first | exact trivial | exact rfl | refine And.intro ?_ ?_ | ((conv => whnf); first | exact trivial | exact rfl | refine And.intro ?_ ?_ | omega))), ?_⟩
                  conv => whnf
                  refine ⟨fun hc => absurd hc (by simp), fun hc => ?_⟩
                  conv => whnf
                  refine call_step hr rfl rfl ?_
                  conv => whnf
                  refine ⟨(by repeat' (first | exact trivial | exact rfl | refine And.intro ?_ ?_ | ((conv => whnf); first | exact trivial | exact rfl | refine And.intro ?_ ?_ | omega))), (by repeat' (first | exact trivial | exact rfl | refine And.intro ?_ ?_ | ((conv => whnf); first | exact trivial | exact rfl | refine And.intro ?_ ?_ | omega))), ?_⟩
                  conv => whnf
                  refine call_step hbf rfl rfl ?_
                  conv => whnf
                  refine ⟨(by repeat' (first | exact trivial | exact rfl | refine And.intro ?_ ?_ | ((conv => whnf); first | exact trivial | exact rfl | refine And.intro ?_ ?_ | omega))), (by repeat' (first | exact trivial | exact rfl | refine And.intro ?_ ?_ | ((conv => whnf); first | exact trivial | exact rfl | refine And.intro ?_ ?_ | omega))), ?_⟩
                  conv => whnf
                  refine call_step hlf rfl rfl ?_
                  conv => whnf
                  refine ⟨(by repeat' (first | exact trivial | exact rfl | refine And.intro ?_ ?_ | ((conv => whnf); first | exact trivial | exact rfl | refine And.intro ?_ ?_ | omega))), (by repeat' (first | exact trivial | exact rfl | refine And.intro ?_ ?_ | ((conv => whnf); first | exact trivial | exact rfl | refine And.intro ?_ ?_ | omega))), ?_⟩
                  conv => whnf
                  refine ⟨fun hc => absurd hc (by simp), fun hc => ?_⟩
                  conv => whnf
                  refine ⟨fun hc => absurd hc (by simp), fun hc => ?_⟩
                  conv => whnf
                  refine ⟨fun hc => absurd hc (by simp), fun hc => ?_⟩
                  conv => whnf
                  refine ⟨fun hc => absurd hc (by simp), fun hc => ?_⟩
                  conv => whnf
                  refine ⟨fun hc => absurd hc (by simp), fun hc => ?_⟩
                  conv => whnf
                  refine ⟨fun hc => absurd hc (by simp), fun hc => ?_⟩
                  conv => whnf
                  refine call_step hT2 rfl rfl ?_
                  conv => whnf
                  refine ⟨(by repeat' (first | exact trivial | exact rfl | refine And.intro ?_ ?_ | ((conv => whnf); first | exact trivial | exact rfl | refine And.intro ?_ ?_ | omega))), (by repeat' (first | exact trivial | exact rfl | refine And.intro ?_ ?_ | ((conv => whnf); first | exact trivial | exact rfl | refine And.intro ?_ ?_ | omega))), ?_⟩
                  conv => whnf
                  refine call_step hrf rfl rfl ?_
                  conv => whnf
                  refine ⟨(by repeat' (first | exact trivial | exact rfl | refine And.intro ?_ ?_ | ((conv => whnf); first | exact trivial | exact rfl | refine And.intro ?_ ?_ | omega))), (by repeat' (first | exact trivial | exact rfl | refine And.intro ?_ ?_ | ((conv => whnf); first | exact trivial | exact rfl | refine And.intro ?_ ?_ | omega))), ?_⟩
                  conv => whnf
                  refine ⟨fun hc => absurd hc (by simp), fun hc => ?_⟩
                  conv => whnf
                  refine ⟨fun hc => ?_, fun hc => absurd hc (by simp)⟩
                  conv => whnf
                  refine ⟨fun hc => ?_, fun hc => absurd hc (by simp)⟩
                  conv => whnf
                  repeat' (first | exact trivial | exact rfl | refine And.intro ?_ ?_ | ((conv => whnf); first | exact trivial | exact rfl | refine And.intro ?_ ?_ | omega))
                · have hlow : R.low = false := by
                    cases hb2 : R.low with
                    | false => rfl
                    | true => obtain ⟨q0, ⟨_, h1⟩, h2⟩ := hseen.low hb2; have := hm q0 h1; omega
                  obtain ⟨q0, ⟨_, h1⟩, h2, h3⟩ := hseen.quo hsm
                  obtain ⟨k1', k2'⟩ := hseen.pos hsm hlow pt' ⟨allows_inBox hs hok.al, hok.al⟩
                  have hqe : p * R.den = R.num * q := quo_eq (by have := hok.most q0 h1; rw [h2, h3] at this; exact this) k2' hok.eq k1' hok.qb.1
                  obtain ⟨_, _, pn, pd⟩ := formsF_ok hFo
                  obtain ⟨n16, pn⟩ := partB_iff.1 pn
                  obtain ⟨d16, pd⟩ := partB_iff.1 pd
                  have c1 := part_bd hs h1 (fun t ht => (f2 t ht).1) pn
                  have c2 := part_bd hs h1 (fun t ht => (g2 t ht).1) pd
                  rw [h2] at c1
                  rw [h3] at c2
                  have d1 := mul_bd (x := p) (y := R.den) (C := 134217728) (D := 134217728) hok.pb (by omega)
                  have d2 := mul_bd (x := R.num) (y := q) (C := 134217728) (D := 134217728) (by omega) (by have := hok.qb; omega)
                  clear hseen c1 c2 h2 h3 k1' k2'
                  obtain ⟨sm, slo, shi, smo, sle, snu, sde, slw⟩ := R
                  dsimp only at *
                  subst hsm
                  subst hlow
                  refine triple_of tB_ok Try.func13 rfl Try.call13 rfl ?_
                  intro ρ w hH
                  conv => whnf
                  refine call_step head_t rfl rfl ?_
                  conv => whnf
                  refine ⟨(by repeat' (first | exact trivial | exact rfl | refine And.intro ?_ ?_ | ((conv => whnf); first | exact trivial | exact rfl | refine And.intro ?_ ?_ | omega))), (by repeat' (first | exact trivial | exact rfl | refine And.intro ?_ ?_ | ((conv => whnf); first | exact trivial | exact rfl | refine And.intro ?_ ?_ | omega))), ?_⟩
                  conv => whnf
                  refine call_step (tiny_t bs ls) rfl rfl ?_
                  conv => whnf
                  refine ⟨(by repeat' (first | exact trivial | exact rfl | refine And.intro ?_ ?_ | ((conv => whnf); first | exact trivial | exact rfl | refine And.intro ?_ ?_ | omega))), (by repeat' (first | exact trivial | exact rfl | refine And.intro ?_ ?_ | ((conv => whnf); first | exact trivial | exact rfl | refine And.intro ?_ ?_ | omega))), ?_⟩
                  conv => whnf
                  rw [hT]
                  refine ⟨fun hc => absurd hc (by simp), fun hc => ?_⟩
                  conv => whnf
                  refine ⟨fun hc => absurd (of_decide_eq_true (show decide ((20 : Int) < ls.length) = true from hc)) (by omega), fun hc => ?_⟩
                  conv => whnf
                  refine call_step (check_t bs ls (by omega) (by omega)) rfl rfl ?_
                  conv => whnf
                  refine ⟨(by repeat' (first | exact trivial | exact rfl | refine And.intro ?_ ?_ | ((conv => whnf); first | exact trivial | exact rfl | refine And.intro ?_ ?_ | omega))), (by repeat' (first | exact trivial | exact rfl | refine And.intro ?_ ?_ | ((conv => whnf); first | exact trivial | exact rfl | refine And.intro ?_ ?_ | omega))), ?_⟩
                  conv => whnf
                  rw [hck]
                  refine ⟨fun hc => absurd hc (by simp), fun hc => ?_⟩
                  conv => whnf
                  refine call_step (lawFormed_t bs ls form 8 (by omega) (by omega)) rfl rfl ?_
                  conv => whnf
                  refine ⟨(by repeat' (first | exact trivial | exact rfl | refine And.intro ?_ ?_ | ((conv => whnf); first | exact trivial | exact rfl | refine And.intro ?_ ?_ | omega))), (by repeat' (first | exact trivial | exact rfl | refine And.intro ?_ ?_ | ((conv => whnf); first | exact trivial | exact rfl | refine And.intro ?_ ?_ | omega))), ?_⟩
                  conv => whnf
                  rw [hF]
                  refine ⟨fun hc => absurd hc (by simp), fun hc => ?_⟩
                  conv => whnf
                  refine call_step (lawFormed_t bs ls den 8 (by omega) (by omega)) rfl rfl ?_
                  conv => whnf
                  refine ⟨(by repeat' (first | exact trivial | exact rfl | refine And.intro ?_ ?_ | ((conv => whnf); first | exact trivial | exact rfl | refine And.intro ?_ ?_ | omega))), (by repeat' (first | exact trivial | exact rfl | refine And.intro ?_ ?_ | ((conv => whnf); first | exact trivial | exact rfl | refine And.intro ?_ ?_ | omega))), ?_⟩
                  conv => whnf
                  rw [hG]
                  refine ⟨fun hc => absurd hc (by simp), fun hc => ?_⟩
                  conv => whnf
                  refine ⟨a, wrapId ⟨by omega, by omega⟩, ?_⟩
                  conv => whnf
                  refine ⟨(bs.length : Int) + 1, wrapId (z := (bs.length : Int) + 1) ⟨by omega, by omega⟩, ?_⟩
                  conv => whnf
                  refine ⟨(show (bs.length : Int) + 1 ≠ 0 by omega), i1, hi1.1, ?_⟩
                  conv => whnf
                  refine ⟨i1 - 1, wrapId (z := i1 - 1) ⟨by omega, by omega⟩, ?_⟩
                  conv => whnf
                  refine ⟨b, wrapId ⟨by omega, by omega⟩, ?_⟩
                  conv => whnf
                  refine ⟨(bs.length : Int) + 1, wrapId (z := (bs.length : Int) + 1) ⟨by omega, by omega⟩, ?_⟩
                  conv => whnf
                  refine ⟨(show (bs.length : Int) + 1 ≠ 0 by omega), k1, hk1.1, ?_⟩
                  conv => whnf
                  refine ⟨k1 - 1, wrapId (z := k1 - 1) ⟨by omega, by omega⟩, ?_⟩
                  conv => whnf
                  refine call_step hgone rfl rfl ?_
                  conv => whnf
                  refine ⟨(by repeat' (first | exact trivial | exact rfl | refine And.intro ?_ ?_ | ((conv => whnf); first | exact trivial | exact rfl | refine And.intro ?_ ?_ | omega))), (by repeat' (first | exact trivial | exact rfl | refine And.intro ?_ ?_ | ((conv => whnf); first | exact trivial | exact rfl | refine And.intro ?_ ?_ | omega))), ?_⟩
                  conv => whnf
                  refine call_step (conflictNone_t bs ls hs hcalm) rfl rfl ?_
                  conv => whnf
                  refine ⟨(by repeat' (first | exact trivial | exact rfl | refine And.intro ?_ ?_ | ((conv => whnf); first | exact trivial | exact rfl | refine And.intro ?_ ?_ | omega))), (by repeat' (first | exact trivial | exact rfl | refine And.intro ?_ ?_ | ((conv => whnf); first | exact trivial | exact rfl | refine And.intro ?_ ?_ | omega))), ?_⟩
                  conv => whnf
                  refine ⟨fun hc => absurd hc (by simp), fun hc => ?_⟩
                  conv => whnf
                  refine ⟨fun hc => absurd hc (by simp), fun hc => ?_⟩
                  conv => whnf
                  refine ⟨fun hc => absurd hc (by simp), fun hc => ?_⟩
                  conv => whnf
                  refine call_step (newNone_t bs ls hs hcalm) rfl rfl ?_
                  conv => whnf
                  refine ⟨(by repeat' (first | exact trivial | exact rfl | refine And.intro ?_ ?_ | ((conv => whnf); first | exact trivial | exact rfl | refine And.intro ?_ ?_ | omega))), (by repeat' (first | exact trivial | exact rfl | refine And.intro ?_ ?_ | ((conv => whnf); first | exact trivial | exact rfl | refine And.intro ?_ ?_ | omega))), ?_⟩
                  conv => whnf
                  refine ⟨fun hc => absurd hc (by simp), fun hc => ?_⟩
                  conv => whnf
                  refine call_step hr rfl rfl ?_
                  conv => whnf
                  refine ⟨(by repeat' (first | exact trivial | exact rfl | refine And.intro ?_ ?_ | ((conv => whnf); first | exact trivial | exact rfl | refine And.intro ?_ ?_ | omega))), (by repeat' (first | exact trivial | exact rfl | refine And.intro ?_ ?_ | ((conv => whnf); first | exact trivial | exact rfl | refine And.intro ?_ ?_ | omega))), ?_⟩
                  conv => whnf
                  refine call_step hbf rfl rfl ?_
                  conv => whnf
                  refine ⟨(by repeat' (first | exact trivial | exact rfl | refine And.intro ?_ ?_ | ((conv => whnf); first | exact trivial | exact rfl | refine And.intro ?_ ?_ | omega))), (by repeat' (first | exact trivial | exact rfl | refine And.intro ?_ ?_ | ((conv => whnf); first | exact trivial | exact rfl | refine And.intro ?_ ?_ | omega))), ?_⟩
                  conv => whnf
                  refine call_step hlf rfl rfl ?_
                  conv => whnf
                  refine ⟨(by repeat' (first | exact trivial | exact rfl | refine And.intro ?_ ?_ | ((conv => whnf); first | exact trivial | exact rfl | refine And.intro ?_ ?_ | omega))), (by repeat' (first | exact trivial | exact rfl | refine And.intro ?_ ?_ | ((conv => whnf); first | exact trivial | exact rfl | refine And.intro ?_ ?_ | omega))), ?_⟩
                  conv => whnf
                  refine ⟨fun hc => absurd hc (by simp), fun hc => ?_⟩
                  conv => whnf
                  refine ⟨fun hc => absurd hc (by simp), fun hc => ?_⟩
                  conv => whnf
                  refine ⟨fun hc => absurd hc (by simp), fun hc => ?_⟩
                  conv => whnf
                  refine ⟨fun hc => absurd hc (by simp), fun hc => ?_⟩
                  conv => whnf
                  refine ⟨fun hc => absurd hc (by simp), fun hc => ?_⟩
                  conv => whnf
                  refine ⟨fun hc => absurd hc (by simp), fun hc => ?_⟩
                  conv => whnf
                  refine call_step hT2 rfl rfl ?_
                  conv => whnf
                  refine ⟨(by repeat' (first | exact trivial | exact rfl | refine And.intro ?_ ?_ | ((conv => whnf); first | exact trivial | exact rfl | refine And.intro ?_ ?_ | omega))), (by repeat' (first | exact trivial | exact rfl | refine And.intro ?_ ?_ | ((conv => whnf); first | exact trivial | exact rfl | refine And.intro ?_ ?_ | omega))), ?_⟩
                  conv => whnf
                  refine call_step hrf rfl rfl ?_
                  conv => whnf
                  refine ⟨(by repeat' (first | exact trivial | exact rfl | refine And.intro ?_ ?_ | ((conv => whnf); first | exact trivial | exact rfl | refine And.intro ?_ ?_ | omega))), (by repeat' (first | exact trivial | exact rfl | refine And.intro ?_ ?_ | ((conv => whnf); first | exact trivial | exact rfl | refine And.intro ?_ ?_ | omega))), ?_⟩
                  conv => whnf
                  refine ⟨fun hc => absurd hc (by simp), fun hc => ?_⟩
                  conv => whnf
                  refine ⟨fun hc => absurd hc (by simp), fun hc => ?_⟩
                  conv => whnf
                  refine ⟨fun hc => ?_, fun hc => absurd hc (by simp)⟩
                  conv => whnf
                  refine ⟨fun hc => ?_, fun hc => absurd hc (by simp)⟩
                  conv => whnf
                  refine ⟨p * sde, (show IntKind.i64.wrap (p * sde) = p * sde from wrapId ⟨by omega, by omega⟩), ?_⟩
                  conv => whnf
                  refine ⟨snu * q, (show IntKind.i64.wrap (snu * q) = snu * q from wrapId ⟨by omega, by omega⟩), ?_⟩
                  conv => whnf
                  refine ⟨?_, trivial⟩
                  show (p * sde == snu * q) = true
                  rw [hqe]
                  exact beq_self_eq_true _
              · have hT2 := topDiv_t bs ls form den (by omega) (by omega) (by omega) hFo
                have h1 : formsF bs form den = 1 := by
                  unfold formsF at hFo ⊢
                  rw [if_neg (by simpa using fF), if_neg (by simpa using fG)] at hFo ⊢
                  split
                  · rename_i hh; rw [if_pos hh] at hFo; exact absurd rfl hFo
                  · rfl
                rw [h1] at hT2 hrf
                clear hseen
                obtain ⟨sm, slo, shi, smo, sle, snu, sde, slw⟩ := R
                dsimp only at *
                subst hsm
                refine triple_of tB_ok Try.func13 rfl Try.call13 rfl ?_
                intro ρ w hH
                conv => whnf
                refine call_step head_t rfl rfl ?_
                conv => whnf
                refine ⟨(by repeat' (first | exact trivial | exact rfl | refine And.intro ?_ ?_ | ((conv => whnf); first | exact trivial | exact rfl | refine And.intro ?_ ?_ | omega))), (by repeat' (first | exact trivial | exact rfl | refine And.intro ?_ ?_ | ((conv => whnf); first | exact trivial | exact rfl | refine And.intro ?_ ?_ | omega))), ?_⟩
                conv => whnf
                refine call_step (tiny_t bs ls) rfl rfl ?_
                conv => whnf
                refine ⟨(by repeat' (first | exact trivial | exact rfl | refine And.intro ?_ ?_ | ((conv => whnf); first | exact trivial | exact rfl | refine And.intro ?_ ?_ | omega))), (by repeat' (first | exact trivial | exact rfl | refine And.intro ?_ ?_ | ((conv => whnf); first | exact trivial | exact rfl | refine And.intro ?_ ?_ | omega))), ?_⟩
                conv => whnf
                rw [hT]
                refine ⟨fun hc => absurd hc (by simp), fun hc => ?_⟩
                conv => whnf
                refine ⟨fun hc => absurd (of_decide_eq_true (show decide ((20 : Int) < ls.length) = true from hc)) (by omega), fun hc => ?_⟩
                conv => whnf
                refine call_step (check_t bs ls (by omega) (by omega)) rfl rfl ?_
                conv => whnf
                refine ⟨(by repeat' (first | exact trivial | exact rfl | refine And.intro ?_ ?_ | ((conv => whnf); first | exact trivial | exact rfl | refine And.intro ?_ ?_ | omega))), (by repeat' (first | exact trivial | exact rfl | refine And.intro ?_ ?_ | ((conv => whnf); first | exact trivial | exact rfl | refine And.intro ?_ ?_ | omega))), ?_⟩
                conv => whnf
                rw [hck]
                refine ⟨fun hc => absurd hc (by simp), fun hc => ?_⟩
                conv => whnf
                refine call_step (lawFormed_t bs ls form 8 (by omega) (by omega)) rfl rfl ?_
                conv => whnf
                refine ⟨(by repeat' (first | exact trivial | exact rfl | refine And.intro ?_ ?_ | ((conv => whnf); first | exact trivial | exact rfl | refine And.intro ?_ ?_ | omega))), (by repeat' (first | exact trivial | exact rfl | refine And.intro ?_ ?_ | ((conv => whnf); first | exact trivial | exact rfl | refine And.intro ?_ ?_ | omega))), ?_⟩
                conv => whnf
                rw [hF]
                refine ⟨fun hc => absurd hc (by simp), fun hc => ?_⟩
                conv => whnf
                refine call_step (lawFormed_t bs ls den 8 (by omega) (by omega)) rfl rfl ?_
                conv => whnf
                refine ⟨(by repeat' (first | exact trivial | exact rfl | refine And.intro ?_ ?_ | ((conv => whnf); first | exact trivial | exact rfl | refine And.intro ?_ ?_ | omega))), (by repeat' (first | exact trivial | exact rfl | refine And.intro ?_ ?_ | ((conv => whnf); first | exact trivial | exact rfl | refine And.intro ?_ ?_ | omega))), ?_⟩
                conv => whnf
                rw [hG]
                refine ⟨fun hc => absurd hc (by simp), fun hc => ?_⟩
                conv => whnf
                refine ⟨a, wrapId ⟨by omega, by omega⟩, ?_⟩
                conv => whnf
                refine ⟨(bs.length : Int) + 1, wrapId (z := (bs.length : Int) + 1) ⟨by omega, by omega⟩, ?_⟩
                conv => whnf
                refine ⟨(show (bs.length : Int) + 1 ≠ 0 by omega), i1, hi1.1, ?_⟩
                conv => whnf
                refine ⟨i1 - 1, wrapId (z := i1 - 1) ⟨by omega, by omega⟩, ?_⟩
                conv => whnf
                refine ⟨b, wrapId ⟨by omega, by omega⟩, ?_⟩
                conv => whnf
                refine ⟨(bs.length : Int) + 1, wrapId (z := (bs.length : Int) + 1) ⟨by omega, by omega⟩, ?_⟩
                conv => whnf
                refine ⟨(show (bs.length : Int) + 1 ≠ 0 by omega), k1, hk1.1, ?_⟩
                conv => whnf
                refine ⟨k1 - 1, wrapId (z := k1 - 1) ⟨by omega, by omega⟩, ?_⟩
                conv => whnf
                refine call_step hgone rfl rfl ?_
                conv => whnf
                refine ⟨(by repeat' (first | exact trivial | exact rfl | refine And.intro ?_ ?_ | ((conv => whnf); first | exact trivial | exact rfl | refine And.intro ?_ ?_ | omega))), (by repeat' (first | exact trivial | exact rfl | refine And.intro ?_ ?_ | ((conv => whnf); first | exact trivial | exact rfl | refine And.intro ?_ ?_ | omega))), ?_⟩
                conv => whnf
                refine call_step (conflictNone_t bs ls hs hcalm) rfl rfl ?_
                conv => whnf
                refine ⟨(by repeat' (first | exact trivial | exact rfl | refine And.intro ?_ ?_ | ((conv => whnf); first | exact trivial | exact rfl | refine And.intro ?_ ?_ | omega))), (by repeat' (first | exact trivial | exact rfl | refine And.intro ?_ ?_ | ((conv => whnf); first | exact trivial | exact rfl | refine And.intro ?_ ?_ | omega))), ?_⟩
                conv => whnf
                refine ⟨fun hc => absurd hc (by simp), fun hc => ?_⟩
                conv => whnf
                refine ⟨fun hc => absurd hc (by simp), fun hc => ?_⟩
                conv => whnf
                refine ⟨fun hc => absurd hc (by simp), fun hc => ?_⟩
                conv => whnf
                refine call_step (newNone_t bs ls hs hcalm) rfl rfl ?_
                conv => whnf
                refine ⟨(by repeat' (first | exact trivial | exact rfl | refine And.intro ?_ ?_ | ((conv => whnf); first | exact trivial | exact rfl | refine And.intro ?_ ?_ | omega))), (by repeat' (first | exact trivial | exact rfl | refine And.intro ?_ ?_ | ((conv => whnf); first | exact trivial | exact rfl | refine And.intro ?_ ?_ | omega))), ?_⟩
                conv => whnf
                refine ⟨fun hc => absurd hc (by simp), fun hc => ?_⟩
                conv => whnf
                refine call_step hr rfl rfl ?_
                conv => whnf
                refine ⟨(by repeat' (first | exact trivial | exact rfl | refine And.intro ?_ ?_ | ((conv => whnf); first | exact trivial | exact rfl | refine And.intro ?_ ?_ | omega))), (by repeat' (first | exact trivial | exact rfl | refine And.intro ?_ ?_ | ((conv => whnf); first | exact trivial | exact rfl | refine And.intro ?_ ?_ | omega))), ?_⟩
                conv => whnf
                refine call_step hbf rfl rfl ?_
                conv => whnf
                refine ⟨(by repeat' (first | exact trivial | exact rfl | refine And.intro ?_ ?_ | ((conv => whnf); first | exact trivial | exact rfl | refine And.intro ?_ ?_ | omega))), (by repeat' (first | exact trivial | exact rfl | refine And.intro ?_ ?_ | ((conv => whnf); first | exact trivial | exact rfl | refine And.intro ?_ ?_ | omega))), ?_⟩
                conv => whnf
                refine call_step hlf rfl rfl ?_
                conv => whnf
                refine ⟨(by repeat' (first | exact trivial | exact rfl | refine And.intro ?_ ?_ | ((conv => whnf); first | exact trivial | exact rfl | refine And.intro ?_ ?_ | omega))), (by repeat' (first | exact trivial | exact rfl | refine And.intro ?_ ?_ | ((conv => whnf); first | exact trivial | exact rfl | refine And.intro ?_ ?_ | omega))), ?_⟩
                conv => whnf
                refine ⟨fun hc => absurd hc (by simp), fun hc => ?_⟩
                conv => whnf
                refine ⟨fun hc => absurd hc (by simp), fun hc => ?_⟩
                conv => whnf
                refine ⟨fun hc => absurd hc (by simp), fun hc => ?_⟩
                conv => whnf
                refine ⟨fun hc => absurd hc (by simp), fun hc => ?_⟩
                conv => whnf
                refine ⟨fun hc => absurd hc (by simp), fun hc => ?_⟩
                conv => whnf
                refine ⟨fun hc => absurd hc (by simp), fun hc => ?_⟩
                conv => whnf
                refine call_step hT2 rfl rfl ?_
                conv => whnf
                refine ⟨(by repeat' (first | exact trivial | exact rfl | refine And.intro ?_ ?_ | ((conv => whnf); first | exact trivial | exact rfl | refine And.intro ?_ ?_ | omega))), (by repeat' (first | exact trivial | exact rfl | refine And.intro ?_ ?_ | ((conv => whnf); first | exact trivial | exact rfl | refine And.intro ?_ ?_ | omega))), ?_⟩
                conv => whnf
                refine call_step hrf rfl rfl ?_
                conv => whnf
                refine ⟨(by repeat' (first | exact trivial | exact rfl | refine And.intro ?_ ?_ | ((conv => whnf); first | exact trivial | exact rfl | refine And.intro ?_ ?_ | omega))), (by repeat' (first | exact trivial | exact rfl | refine And.intro ?_ ?_ | ((conv => whnf); first | exact trivial | exact rfl | refine And.intro ?_ ?_ | omega))), ?_⟩
                conv => whnf
                refine ⟨fun hc => ?_, fun hc => absurd hc (by simp)⟩
                conv => whnf
                refine ⟨fun hc => ?_, fun hc => absurd hc (by simp)⟩
                conv => whnf
                repeat' (first | exact trivial | exact rfl | refine And.intro ?_ ?_ | ((conv => whnf); first | exact trivial | exact rfl | refine And.intro ?_ ?_ | omega))
            · have hsm := seen_none hs hcalm hseen
              obtain ⟨v, P, kk, M, hch, hv, hcy⟩ := cyc_of (graphF_ok hs 0) (Nat.le_refl _) hcalm
              have hce := conflictYes_t bs ls v P kk M hs hch hcy
              generalize (cycL bs.length (graphF bs ls 0) kk M).reverse = cy at *
              clear hseen
              obtain ⟨sm, slo, shi, smo, sle, snu, sde, slw⟩ := R
              dsimp only at *
              subst hsm
              refine triple_of tB_ok Try.func13 rfl Try.call13 rfl ?_
              intro ρ w hH
              conv => whnf
              refine call_step head_t rfl rfl ?_
              conv => whnf
              refine ⟨(by repeat' (first | exact trivial | exact rfl | refine And.intro ?_ ?_ | ((conv => whnf); first | exact trivial | exact rfl | refine And.intro ?_ ?_ | omega))), (by repeat' (first | exact trivial | exact rfl | refine And.intro ?_ ?_ | ((conv => whnf); first | exact trivial | exact rfl | refine And.intro ?_ ?_ | omega))), ?_⟩
              conv => whnf
              refine call_step (tiny_t bs ls) rfl rfl ?_
              conv => whnf
              refine ⟨(by repeat' (first | exact trivial | exact rfl | refine And.intro ?_ ?_ | ((conv => whnf); first | exact trivial | exact rfl | refine And.intro ?_ ?_ | omega))), (by repeat' (first | exact trivial | exact rfl | refine And.intro ?_ ?_ | ((conv => whnf); first | exact trivial | exact rfl | refine And.intro ?_ ?_ | omega))), ?_⟩
              conv => whnf
              rw [hT]
              refine ⟨fun hc => absurd hc (by simp), fun hc => ?_⟩
              conv => whnf
              refine ⟨fun hc => absurd (of_decide_eq_true (show decide ((20 : Int) < ls.length) = true from hc)) (by omega), fun hc => ?_⟩
              conv => whnf
              refine call_step (check_t bs ls (by omega) (by omega)) rfl rfl ?_
              conv => whnf
              refine ⟨(by repeat' (first | exact trivial | exact rfl | refine And.intro ?_ ?_ | ((conv => whnf); first | exact trivial | exact rfl | refine And.intro ?_ ?_ | omega))), (by repeat' (first | exact trivial | exact rfl | refine And.intro ?_ ?_ | ((conv => whnf); first | exact trivial | exact rfl | refine And.intro ?_ ?_ | omega))), ?_⟩
              conv => whnf
              rw [hck]
              refine ⟨fun hc => absurd hc (by simp), fun hc => ?_⟩
              conv => whnf
              refine call_step (lawFormed_t bs ls form 8 (by omega) (by omega)) rfl rfl ?_
              conv => whnf
              refine ⟨(by repeat' (first | exact trivial | exact rfl | refine And.intro ?_ ?_ | ((conv => whnf); first | exact trivial | exact rfl | refine And.intro ?_ ?_ | omega))), (by repeat' (first | exact trivial | exact rfl | refine And.intro ?_ ?_ | ((conv => whnf); first | exact trivial | exact rfl | refine And.intro ?_ ?_ | omega))), ?_⟩
              conv => whnf
              rw [hF]
              refine ⟨fun hc => absurd hc (by simp), fun hc => ?_⟩
              conv => whnf
              refine call_step (lawFormed_t bs ls den 8 (by omega) (by omega)) rfl rfl ?_
              conv => whnf
              refine ⟨(by repeat' (first | exact trivial | exact rfl | refine And.intro ?_ ?_ | ((conv => whnf); first | exact trivial | exact rfl | refine And.intro ?_ ?_ | omega))), (by repeat' (first | exact trivial | exact rfl | refine And.intro ?_ ?_ | ((conv => whnf); first | exact trivial | exact rfl | refine And.intro ?_ ?_ | omega))), ?_⟩
              conv => whnf
              rw [hG]
              refine ⟨fun hc => absurd hc (by simp), fun hc => ?_⟩
              conv => whnf
              refine ⟨a, wrapId ⟨by omega, by omega⟩, ?_⟩
              conv => whnf
              refine ⟨(bs.length : Int) + 1, wrapId (z := (bs.length : Int) + 1) ⟨by omega, by omega⟩, ?_⟩
              conv => whnf
              refine ⟨(show (bs.length : Int) + 1 ≠ 0 by omega), i1, hi1.1, ?_⟩
              conv => whnf
              refine ⟨i1 - 1, wrapId (z := i1 - 1) ⟨by omega, by omega⟩, ?_⟩
              conv => whnf
              refine ⟨b, wrapId ⟨by omega, by omega⟩, ?_⟩
              conv => whnf
              refine ⟨(bs.length : Int) + 1, wrapId (z := (bs.length : Int) + 1) ⟨by omega, by omega⟩, ?_⟩
              conv => whnf
              refine ⟨(show (bs.length : Int) + 1 ≠ 0 by omega), k1, hk1.1, ?_⟩
              conv => whnf
              refine ⟨k1 - 1, wrapId (z := k1 - 1) ⟨by omega, by omega⟩, ?_⟩
              conv => whnf
              refine call_step hgone rfl rfl ?_
              conv => whnf
              refine ⟨(by repeat' (first | exact trivial | exact rfl | refine And.intro ?_ ?_ | ((conv => whnf); first | exact trivial | exact rfl | refine And.intro ?_ ?_ | omega))), (by repeat' (first | exact trivial | exact rfl | refine And.intro ?_ ?_ | ((conv => whnf); first | exact trivial | exact rfl | refine And.intro ?_ ?_ | omega))), ?_⟩
              conv => whnf
              refine call_step hce rfl rfl ?_
              conv => whnf
              refine ⟨(by repeat' (first | exact trivial | exact rfl | refine And.intro ?_ ?_ | ((conv => whnf); first | exact trivial | exact rfl | refine And.intro ?_ ?_ | omega))), (by repeat' (first | exact trivial | exact rfl | refine And.intro ?_ ?_ | ((conv => whnf); first | exact trivial | exact rfl | refine And.intro ?_ ?_ | omega))), ?_⟩
              conv => whnf
              refine ⟨fun hc => absurd hc (by simp), fun hc => ?_⟩
              conv => whnf
              refine ⟨fun hc => absurd hc (by simp), fun hc => ?_⟩
              conv => whnf
              refine ⟨fun hc => ?_, fun hc => absurd hc (by simp)⟩
              conv => whnf
              repeat' (first | exact trivial | exact rfl | refine And.intro ?_ ?_ | ((conv => whnf); first | exact trivial | exact rfl | refine And.intro ?_ ?_ | omega))
          · have hG : formedB bs.length den 8 = false := by simpa using hG
            refine triple_of tB_ok Try.func13 rfl Try.call13 rfl ?_
            intro ρ w hH
            conv => whnf
            refine call_step head_t rfl rfl ?_
            conv => whnf
            refine ⟨(by repeat' (first | exact trivial | exact rfl | refine And.intro ?_ ?_ | ((conv => whnf); first | exact trivial | exact rfl | refine And.intro ?_ ?_ | omega))), (by repeat' (first | exact trivial | exact rfl | refine And.intro ?_ ?_ | ((conv => whnf); first | exact trivial | exact rfl | refine And.intro ?_ ?_ | omega))), ?_⟩
            conv => whnf
            refine call_step (tiny_t bs ls) rfl rfl ?_
            conv => whnf
            refine ⟨(by repeat' (first | exact trivial | exact rfl | refine And.intro ?_ ?_ | ((conv => whnf); first | exact trivial | exact rfl | refine And.intro ?_ ?_ | omega))), (by repeat' (first | exact trivial | exact rfl | refine And.intro ?_ ?_ | ((conv => whnf); first | exact trivial | exact rfl | refine And.intro ?_ ?_ | omega))), ?_⟩
            conv => whnf
            rw [hT]
            refine ⟨fun hc => absurd hc (by simp), fun hc => ?_⟩
            conv => whnf
            refine ⟨fun hc => absurd (of_decide_eq_true (show decide ((20 : Int) < ls.length) = true from hc)) (by omega), fun hc => ?_⟩
            conv => whnf
            refine call_step (check_t bs ls (by omega) (by omega)) rfl rfl ?_
            conv => whnf
            refine ⟨(by repeat' (first | exact trivial | exact rfl | refine And.intro ?_ ?_ | ((conv => whnf); first | exact trivial | exact rfl | refine And.intro ?_ ?_ | omega))), (by repeat' (first | exact trivial | exact rfl | refine And.intro ?_ ?_ | ((conv => whnf); first | exact trivial | exact rfl | refine And.intro ?_ ?_ | omega))), ?_⟩
            conv => whnf
            rw [hck]
            refine ⟨fun hc => absurd hc (by simp), fun hc => ?_⟩
            conv => whnf
            refine call_step (lawFormed_t bs ls form 8 (by omega) (by omega)) rfl rfl ?_
            conv => whnf
            refine ⟨(by repeat' (first | exact trivial | exact rfl | refine And.intro ?_ ?_ | ((conv => whnf); first | exact trivial | exact rfl | refine And.intro ?_ ?_ | omega))), (by repeat' (first | exact trivial | exact rfl | refine And.intro ?_ ?_ | ((conv => whnf); first | exact trivial | exact rfl | refine And.intro ?_ ?_ | omega))), ?_⟩
            conv => whnf
            rw [hF]
            refine ⟨fun hc => absurd hc (by simp), fun hc => ?_⟩
            conv => whnf
            refine call_step (lawFormed_t bs ls den 8 (by omega) (by omega)) rfl rfl ?_
            conv => whnf
            refine ⟨(by repeat' (first | exact trivial | exact rfl | refine And.intro ?_ ?_ | ((conv => whnf); first | exact trivial | exact rfl | refine And.intro ?_ ?_ | omega))), (by repeat' (first | exact trivial | exact rfl | refine And.intro ?_ ?_ | ((conv => whnf); first | exact trivial | exact rfl | refine And.intro ?_ ?_ | omega))), ?_⟩
            conv => whnf
            rw [hG]
            refine ⟨fun hc => ?_, fun hc => absurd hc (by simp)⟩
            conv => whnf
            repeat' (first | exact trivial | exact rfl | refine And.intro ?_ ?_ | ((conv => whnf); first | exact trivial | exact rfl | refine And.intro ?_ ?_ | omega))
        · have hF : formedB bs.length form 8 = false := by simpa using hF
          refine triple_of tB_ok Try.func13 rfl Try.call13 rfl ?_
          intro ρ w hH
          conv => whnf
          refine call_step head_t rfl rfl ?_
          conv => whnf
          refine ⟨(by repeat' (first | exact trivial | exact rfl | refine And.intro ?_ ?_ | ((conv => whnf); first | exact trivial | exact rfl | refine And.intro ?_ ?_ | omega))), (by repeat' (first | exact trivial | exact rfl | refine And.intro ?_ ?_ | ((conv => whnf); first | exact trivial | exact rfl | refine And.intro ?_ ?_ | omega))), ?_⟩
          conv => whnf
          refine call_step (tiny_t bs ls) rfl rfl ?_
          conv => whnf
          refine ⟨(by repeat' (first | exact trivial | exact rfl | refine And.intro ?_ ?_ | ((conv => whnf); first | exact trivial | exact rfl | refine And.intro ?_ ?_ | omega))), (by repeat' (first | exact trivial | exact rfl | refine And.intro ?_ ?_ | ((conv => whnf); first | exact trivial | exact rfl | refine And.intro ?_ ?_ | omega))), ?_⟩
          conv => whnf
          rw [hT]
          refine ⟨fun hc => absurd hc (by simp), fun hc => ?_⟩
          conv => whnf
          refine ⟨fun hc => absurd (of_decide_eq_true (show decide ((20 : Int) < ls.length) = true from hc)) (by omega), fun hc => ?_⟩
          conv => whnf
          refine call_step (check_t bs ls (by omega) (by omega)) rfl rfl ?_
          conv => whnf
          refine ⟨(by repeat' (first | exact trivial | exact rfl | refine And.intro ?_ ?_ | ((conv => whnf); first | exact trivial | exact rfl | refine And.intro ?_ ?_ | omega))), (by repeat' (first | exact trivial | exact rfl | refine And.intro ?_ ?_ | ((conv => whnf); first | exact trivial | exact rfl | refine And.intro ?_ ?_ | omega))), ?_⟩
          conv => whnf
          rw [hck]
          refine ⟨fun hc => absurd hc (by simp), fun hc => ?_⟩
          conv => whnf
          refine call_step (lawFormed_t bs ls form 8 (by omega) (by omega)) rfl rfl ?_
          conv => whnf
          refine ⟨(by repeat' (first | exact trivial | exact rfl | refine And.intro ?_ ?_ | ((conv => whnf); first | exact trivial | exact rfl | refine And.intro ?_ ?_ | omega))), (by repeat' (first | exact trivial | exact rfl | refine And.intro ?_ ?_ | ((conv => whnf); first | exact trivial | exact rfl | refine And.intro ?_ ?_ | omega))), ?_⟩
          conv => whnf
          rw [hF]
          refine ⟨fun hc => ?_, fun hc => absurd hc (by simp)⟩
          conv => whnf
          repeat' (first | exact trivial | exact rfl | refine And.intro ?_ ?_ | ((conv => whnf); first | exact trivial | exact rfl | refine And.intro ?_ ?_ | omega))
      · have hct := check_t bs ls (by omega) (by omega)
        generalize checkF bs ls = c at *
        refine triple_of tB_ok Try.func13 rfl Try.call13 rfl ?_
        intro ρ w hH
        conv => whnf
        refine call_step head_t rfl rfl ?_
        conv => whnf
        refine ⟨(by repeat' (first | exact trivial | exact rfl | refine And.intro ?_ ?_ | ((conv => whnf); first | exact trivial | exact rfl | refine And.intro ?_ ?_ | omega))), (by repeat' (first | exact trivial | exact rfl | refine And.intro ?_ ?_ | ((conv => whnf); first | exact trivial | exact rfl | refine And.intro ?_ ?_ | omega))), ?_⟩
        conv => whnf
        refine call_step (tiny_t bs ls) rfl rfl ?_
        conv => whnf
        refine ⟨(by repeat' (first | exact trivial | exact rfl | refine And.intro ?_ ?_ | ((conv => whnf); first | exact trivial | exact rfl | refine And.intro ?_ ?_ | omega))), (by repeat' (first | exact trivial | exact rfl | refine And.intro ?_ ?_ | ((conv => whnf); first | exact trivial | exact rfl | refine And.intro ?_ ?_ | omega))), ?_⟩
        conv => whnf
        rw [hT]
        refine ⟨fun hc => absurd hc (by simp), fun hc => ?_⟩
        conv => whnf
        refine ⟨fun hc => absurd (of_decide_eq_true (show decide ((20 : Int) < ls.length) = true from hc)) (by omega), fun hc => ?_⟩
        conv => whnf
        refine call_step hct rfl rfl ?_
        conv => whnf
        refine ⟨(by repeat' (first | exact trivial | exact rfl | refine And.intro ?_ ?_ | ((conv => whnf); first | exact trivial | exact rfl | refine And.intro ?_ ?_ | omega))), (by repeat' (first | exact trivial | exact rfl | refine And.intro ?_ ?_ | ((conv => whnf); first | exact trivial | exact rfl | refine And.intro ?_ ?_ | omega))), ?_⟩
        conv => whnf
        refine ⟨fun hc => ?_, fun hc => absurd (by simpa using (show (c != 0) = false from hc)) hck⟩
        conv => whnf
        repeat' (first | exact trivial | exact rfl | refine And.intro ?_ ?_ | ((conv => whnf); first | exact trivial | exact rfl | refine And.intro ?_ ?_ | omega))
    · skip
      refine triple_of tB_ok Try.func13 rfl Try.call13 rfl ?_
      intro ρ w hH
      conv => whnf
      refine call_step head_t rfl rfl ?_
      conv => whnf
      refine ⟨(by repeat' (first | exact trivial | exact rfl | refine And.intro ?_ ?_ | ((conv => whnf); first | exact trivial | exact rfl | refine And.intro ?_ ?_ | omega))), (by repeat' (first | exact trivial | exact rfl | refine And.intro ?_ ?_ | ((conv => whnf); first | exact trivial | exact rfl | refine And.intro ?_ ?_ | omega))), ?_⟩
      conv => whnf
      refine call_step (tiny_t bs ls) rfl rfl ?_
      conv => whnf
      refine ⟨(by repeat' (first | exact trivial | exact rfl | refine And.intro ?_ ?_ | ((conv => whnf); first | exact trivial | exact rfl | refine And.intro ?_ ?_ | omega))), (by repeat' (first | exact trivial | exact rfl | refine And.intro ?_ ?_ | ((conv => whnf); first | exact trivial | exact rfl | refine And.intro ?_ ?_ | omega))), ?_⟩
      conv => whnf
      rw [hT]
      refine ⟨fun hc => absurd hc (by simp), fun hc => ?_⟩
      conv => whnf
      refine ⟨fun hc => ?_, fun hc => absurd (of_decide_eq_false (show decide ((20 : Int) < ls.length) = false from hc)) (by omega)⟩
      conv => whnf
      repeat' (first | exact trivial | exact rfl | refine And.intro ?_ ?_ | ((conv => whnf); first | exact trivial | exact rfl | refine And.intro ?_ ?_ | omega))
  · have hT : tinyF bs = false := by simpa using hT
    refine triple_of tB_ok Try.func13 rfl Try.call13 rfl ?_
    intro ρ w hH
    conv => whnf
    refine call_step head_t rfl rfl ?_
    conv => whnf
    refine ⟨(by repeat' (first | exact trivial | exact rfl | refine And.intro ?_ ?_ | ((conv => whnf); first | exact trivial | exact rfl | refine And.intro ?_ ?_ | omega))), (by repeat' (first | exact trivial | exact rfl | refine And.intro ?_ ?_ | ((conv => whnf); first | exact trivial | exact rfl | refine And.intro ?_ ?_ | omega))), ?_⟩
    conv => whnf
    refine call_step (tiny_t bs ls) rfl rfl ?_
    conv => whnf
    refine ⟨(by repeat' (first | exact trivial | exact rfl | refine And.intro ?_ ?_ | ((conv => whnf); first | exact trivial | exact rfl | refine And.intro ?_ ?_ | omega))), (by repeat' (first | exact trivial | exact rfl | refine And.intro ?_ ?_ | ((conv => whnf); first | exact trivial | exact rfl | refine And.intro ?_ ?_ | omega))), ?_⟩
    conv => whnf
    rw [hT]
    refine ⟨fun hc => ?_, fun hc => absurd hc (by simp)⟩
    conv => whnf
    repeat' (first | exact trivial | exact rfl | refine And.intro ?_ ?_ | ((conv => whnf); first | exact trivial | exact rfl | refine And.intro ?_ ?_ | omega))

end Go.Proofs

