/-
  A part of the proof that a law of dryweightlaw03 answers true: lemmas of a symbolic walk, plain functions, or contracts of the functions walked (Zi). Conditions: none.
-/
import Derived.Test.YtjjfadfmdodmnaaPart19
import Derived.Test.YtjjfadfmdodmnaaPart20
set_option maxRecDepth 100000
set_option linter.unusedVariables false
set_option linter.unusedSimpArgs false
namespace Go.Proofs
open Go.Sx

theorem Allows_t (bs : List (Int × Int)) (ls : List Lnk) (pt : List Int) (hs : SysOK bs ls) (hp : ∀ x ∈ pt, -9223372036854775808 ≤ x ∧ x ≤ 9223372036854775807) (r : Lnk) (t : Bool) (hR : brokenF bs ls pt = (r, t)) :
    Triple Try.prog 72 [.c (.p 0 0 0 0), .c (.s 3 0 pt.length 1)] ((3, false, .arr (aInt pt)) :: netH bs ls) 4
      (.tup [.inr [.v (.int .i64 r.f), .v (.int .i64 r.t), .v (.int .i64 r.m), .v (.int .i64 r.i)], .inl (.v (.bool (!t)))]) [] := by
  have ht := broken_t bs ls pt hs hp r t hR
  refine triple_of tB_ok Try.func72 rfl Try.call72 rfl ?_
  intro ρ w hH
  conv => whnf
  refine call_step ht rfl rfl ?_
  conv => whnf
  refine ⟨(by repeat' (first | exact trivial | exact rfl | refine And.intro ?_ ?_ | ((conv => whnf); first | exact trivial | exact rfl | refine And.intro ?_ ?_ | omega))), (by repeat' (first | exact trivial | exact rfl | refine And.intro ?_ ?_ | ((conv => whnf); first | exact trivial | exact rfl | refine And.intro ?_ ?_ | omega))), ?_⟩
  conv => whnf
  repeat' (first | exact trivial | exact rfl | refine And.intro ?_ ?_ | ((conv => whnf); first | exact trivial | exact rfl | refine And.intro ?_ ?_ | omega))

theorem holds_pot {bs : List (Int × Int)} {ls : List Lnk} {pt : List Int} (hs : SysOK bs ls) (hl : pt.length = bs.length) : (∀ l ∈ allF bs ls, holdsF pt l = true) ↔ PotL bs.length (fun v => pt.getD v 0) (allF bs ls) := by
  have hok := allF_ok hs
  refine forall_congr' fun l => forall_congr' fun hm => ?_
  obtain ⟨_, h1, h2⟩ := hok l hm
  show decide (atF pt l.t - atF pt l.f ≤ l.m) = true ↔ pt.getD (plc bs.length l.t) 0 ≤ pt.getD (plc bs.length l.f) 0 + l.m
  rw [plc_at hl (by omega), plc_at hl (by omega), decide_eq_true_eq]
  omega

/-- The first link that does not hold: there is none exactly if the reference allows the point. -/
theorem broken_allows {bs : List (Int × Int)} {ls : List Lnk} {pt : List Int} (hs : SysOK bs ls) : (brokenF bs ls pt).2 = !(allowsF bs ls pt).2 := by
  by_cases hl : pt.length = bs.length
  · by_cases ha : ∀ l ∈ allF bs ls, holdsF pt l = true
    · rw [broken_none hl ha, (allows_iff hs).2 ⟨hl, (holds_pot hs hl).1 ha⟩]; rfl
    · have h1 : ¬ (allowsF bs ls pt).2 = true := fun h => ha ((holds_pot hs hl).2 ((allows_iff hs).1 h).2)
      have h2 : (allowsF bs ls pt).2 = false := by simpa using h1
      rw [h2, brokenF, if_pos hl]
      cases hf : (allF bs ls).find? (fun l => !holdsF pt l) with
      | none => exact absurd (fun l hm => by simpa using List.find?_eq_none.1 hf l hm) ha
      | some l => rfl
  · rw [brokenF, if_neg hl, allowsF, if_neg hl]; rfl

/-- A difference at an allowed point lies within the least and the greatest one. -/
theorem sharp_diff {bs : List (Int × Int)} {ls : List Lnk} {pt : List Int} (h : NetW bs ls) (ha : (allowsF bs ls pt).2 = true) {a b : Int} (h1 : -1 ≤ a ∧ a < bs.length) (h2 : -1 ≤ b ∧ b < bs.length) :
    -mostF bs.length (graphF bs ls 0) b a ≤ atF pt b - atF pt a ∧ atF pt b - atF pt a ≤ mostF bs.length (graphF bs ls 0) a b := by
  obtain ⟨hl, hp⟩ := (allows_iff h.sys).1 ha
  rw [← graphF_zero] at hp
  have m1 : pt.getD (plc bs.length b) 0 ≤ pt.getD (plc bs.length a) 0 + _ := most_ge h hp h1.2 h2.2
  have m2 : pt.getD (plc bs.length a) 0 ≤ pt.getD (plc bs.length b) 0 + _ := most_ge h hp h2.2 h1.2
  rw [plc_at hl h1, plc_at hl h2] at m1 m2
  omega

theorem systemSharp_t (bs : List (Int × Int)) (ls : List Lnk) (a b : Int) (form den : List (Int × Int)) (pt : List Int) (hp : ∀ x ∈ pt, -9223372036854775808 ≤ x ∧ x ≤ 9223372036854775807) :
    Triple Try.prog 17 [sysA bs.length ls.length, iv .i64 a, iv .i64 b, .c (.s 2 0 form.length 2), .c (.s 3 0 den.length 2), .c (.s 4 0 pt.length 1)] (sysH bs ls ++ [(2, false, .arr (aSpan form)), (3, false, .arr (aSpan den)), (4, false, .arr (aInt pt))]) 5 (bv true) [] := by
  by_cases h : NetOK bs ls
  · have hfew := h.few
    have hnb := h.sys.nb
    have hnl := h.sys.nl
    by_cases hF : formedB bs.length form 1024 = true
    · by_cases hG : formedB bs.length den 1024 = true
      · obtain ⟨r, t, hR⟩ : ∃ r t, brokenF bs ls pt = (r, t) := ⟨_, _, rfl⟩
        have hal := Allows_t bs ls pt h.sys hp r t hR
        have hba := broken_allows (pt := pt) h.sys (ls := ls)
        rw [hR] at hba
        have hba : t = !(allowsF bs ls pt).2 := hba
        by_cases ha : (allowsF bs ls pt).2 = true
        · rw [ha] at hba
          have hba : t = false := hba
          subst hba
          obtain ⟨hpl, hpp⟩ := (allows_iff h.sys).1 ha
          have hpb := pot_bd h.sys hpl hpp
          have fF := formedB_formF hF (by omega) hnb
          have fG := formedB_formF hG (by omega) hnb
          obtain ⟨lo, hi, e, hr, hk⟩ := range_any h.w a b
          obtain ⟨v1, u1, p1, hbf, v1b, _, _, _, m1⟩ := best_call h.w fF
          obtain ⟨v2, u2, p2, hlf, v2b, _, _, _, m2⟩ := least_call h.w fF
          have q1 := m1 pt ha
          have q2 := m2 pt ha
          obtain ⟨f1, f2, _⟩ := formF_ok fF
          obtain ⟨g1, g2, _⟩ := formF_ok fG
          have hat := At_t form pt (by omega) (fun t ht => by rw [hpl]; exact f2 t ht) (fun x hx => by have := hpb x hx; omega)
          have had := At_t den pt (by omega) (fun t ht => by rw [hpl]; exact g2 t ht) (fun x hx => by have := hpb x hx; omega)
          have hrg : e = 0 → b < pt.length ∧ a < pt.length ∧ (lo ≤ atF pt b - atF pt a ∧ atF pt b - atF pt a ≤ hi) ∧ (-250000000000 ≤ lo ∧ hi ≤ 250000000000) := fun he => by
            rcases hk with ⟨_, k1, k2, l1, l2⟩ | ⟨hh, _⟩
            · have := sharp_diff h.w ha k1 k2
              have b1 := most_bdW h.w a b
              have b2 := most_bdW h.w b a
              omega
            · omega
          clear hk m1 m2
          have htop : (∃ c, c ≠ 0 ∧ Triple Try.prog 59 [.c (.p 0 0 0 0), .c (.s 3 0 form.length 2), .c (.s 4 0 den.length 2)] ((3, false, .arr (aSpan form)) :: (4, false, .arr (aSpan den)) :: netH bs ls) 5
              (.tup [.inr [.v (.int .i64 0), .v (.int .i64 0), .v (.slice none 0 0), .v (.slice none 0 0)], .inl (.v (.int .i64 c))]) []) ∨
              (∃ p q us pt', Triple Try.prog 59 [.c (.p 0 0 0 0), .c (.s 3 0 form.length 2), .c (.s 4 0 den.length 2)] ((3, false, .arr (aSpan form)) :: (4, false, .arr (aSpan den)) :: netH bs ls) 5
              (.tup [.inr [.v (.int .i64 p), .v (.int .i64 q), .s 5 0 us.length 5, .s 6 0 pt'.length 1], .inl (.v (.int .i64 0))]) [(5, true, .arr (aUse us)), (6, true, .arr (aInt pt'))] ∧
              (1 ≤ q ∧ q ≤ 134217728) ∧ 1 ≤ valM den pt ∧ valM form pt * q ≤ p * valM den pt ∧ (-18014398509481984 ≤ valM form pt * q ∧ valM form pt * q ≤ 18014398509481984) ∧ (-18014398509481984 ≤ p * valM den pt ∧ p * valM den pt ≤ 18014398509481984)) := by
            by_cases hFo : formsF bs form den = 0
            · obtain ⟨v, us0, pt0, _, _, _, _, _, _, _, hm, hcase⟩ := top_cases h.w (by omega) (by omega) hFo
              rcases hcase with ⟨_, hT⟩ | ⟨hv, p, q, us, pt', hT, hok, _, _⟩
              · exact .inl ⟨3, by omega, hT⟩
              · have hmm := hm pt ha
                have hq := hok.most pt ha
                obtain ⟨_, _, pn, pd⟩ := formsF_ok hFo
                obtain ⟨n16, pn⟩ := partB_iff.1 pn
                obtain ⟨d16, pd⟩ := partB_iff.1 pd
                have b1 := part_bd h.sys ha (fun t ht => (f2 t ht).1) pn
                have b2 := part_bd h.sys ha (fun t ht => (g2 t ht).1) pd
                have c1 := mul_bd (C := 134217728) (D := 134217728) (x := valM form pt) (y := q) (by omega) (by have := hok.qb; omega)
                have c2 := mul_bd (C := 134217728) (D := 134217728) (x := p) (y := valM den pt) hok.pb (by omega)
                rw [Int.mul_comm q] at hq
                exact .inr ⟨p, q, us, pt', hT, hok.qb, by omega, hq, by omega, by omega⟩
            · exact .inl ⟨_, hFo, topDiv_t bs ls form den (by omega) (by omega) (by omega) hFo⟩
          generalize valM form pt = v at *
          generalize valM den pt = x at *
          rcases htop with ⟨c, hcn, hT⟩ | ⟨p, q, us, pt', hT, hqb, hx1, hle, hb1, hb2⟩
          · skip
            refine triple_of tB_ok Try.func17 rfl Try.call17 rfl ?_
            intro ρ w hH
            conv => whnf
            refine call_step head_t rfl rfl ?_
            conv => whnf
            refine ⟨(by repeat' (first | exact trivial | exact rfl | refine And.intro ?_ ?_ | ((conv => whnf); first | exact trivial | exact rfl | refine And.intro ?_ ?_ | omega))), (by repeat' (first | exact trivial | exact rfl | refine And.intro ?_ ?_ | ((conv => whnf); first | exact trivial | exact rfl | refine And.intro ?_ ?_ | omega))), ?_⟩
            conv => whnf
            refine call_step (startYes_t bs ls h) rfl rfl ?_
            conv => whnf
            refine ⟨(by repeat' (first | exact trivial | exact rfl | refine And.intro ?_ ?_ | ((conv => whnf); first | exact trivial | exact rfl | refine And.intro ?_ ?_ | omega))), (by repeat' (first | exact trivial | exact rfl | refine And.intro ?_ ?_ | ((conv => whnf); first | exact trivial | exact rfl | refine And.intro ?_ ?_ | omega))), ?_⟩
            conv => whnf
            refine call_step (lawFormed_t bs ls form 1024 (by omega) (by omega)) rfl rfl ?_
            conv => whnf
            refine ⟨(by repeat' (first | exact trivial | exact rfl | refine And.intro ?_ ?_ | ((conv => whnf); first | exact trivial | exact rfl | refine And.intro ?_ ?_ | omega))), (by repeat' (first | exact trivial | exact rfl | refine And.intro ?_ ?_ | ((conv => whnf); first | exact trivial | exact rfl | refine And.intro ?_ ?_ | omega))), ?_⟩
            conv => whnf
            rw [hF]
            refine ⟨fun hc => absurd hc (by simp), fun hc => ?_⟩
            conv => whnf
            refine call_step (lawFormed_t bs ls den 1024 (by omega) (by omega)) rfl rfl ?_
            conv => whnf
            refine ⟨(by repeat' (first | exact trivial | exact rfl | refine And.intro ?_ ?_ | ((conv => whnf); first | exact trivial | exact rfl | refine And.intro ?_ ?_ | omega))), (by repeat' (first | exact trivial | exact rfl | refine And.intro ?_ ?_ | ((conv => whnf); first | exact trivial | exact rfl | refine And.intro ?_ ?_ | omega))), ?_⟩
            conv => whnf
            rw [hG]
            refine ⟨fun hc => absurd hc (by simp), fun hc => ?_⟩
            conv => whnf
            refine call_step hal rfl rfl ?_
            conv => whnf
            refine ⟨(by repeat' (first | exact trivial | exact rfl | refine And.intro ?_ ?_ | ((conv => whnf); first | exact trivial | exact rfl | refine And.intro ?_ ?_ | omega))), (by repeat' (first | exact trivial | exact rfl | refine And.intro ?_ ?_ | ((conv => whnf); first | exact trivial | exact rfl | refine And.intro ?_ ?_ | omega))), ?_⟩
            conv => whnf
            refine ⟨fun hc => absurd hc (by simp), fun hc => ?_⟩
            conv => whnf
            refine ⟨fun hc => absurd (show ((pt.length : Int) != bs.length) = true from hc) (by rw [hpl]; simp), fun hc => ?_⟩
            conv => whnf
            refine call_step hr rfl rfl ?_
            conv => whnf
            refine ⟨(by repeat' (first | exact trivial | exact rfl | refine And.intro ?_ ?_ | ((conv => whnf); first | exact trivial | exact rfl | refine And.intro ?_ ?_ | omega))), (by repeat' (first | exact trivial | exact rfl | refine And.intro ?_ ?_ | ((conv => whnf); first | exact trivial | exact rfl | refine And.intro ?_ ?_ | omega))), ?_⟩
            conv => whnf
            refine ⟨fun hc => ?_, fun hc => ?_⟩
            · have he : e = 0 := by simpa using (show (e == 0) = true from hc)
              obtain ⟨d1, d2, d3, d4⟩ := hrg he
              conv => whnf
              refine call_step (at_t pt b d1) rfl rfl ?_
              conv => whnf
              refine ⟨(by repeat' (first | exact trivial | exact rfl | refine And.intro ?_ ?_ | ((conv => whnf); first | exact trivial | exact rfl | refine And.intro ?_ ?_ | omega))), (by repeat' (first | exact trivial | exact rfl | refine And.intro ?_ ?_ | ((conv => whnf); first | exact trivial | exact rfl | refine And.intro ?_ ?_ | omega))), ?_⟩
              conv => whnf
              refine call_step (at_t pt a d2) rfl rfl ?_
              conv => whnf
              refine ⟨(by repeat' (first | exact trivial | exact rfl | refine And.intro ?_ ?_ | ((conv => whnf); first | exact trivial | exact rfl | refine And.intro ?_ ?_ | omega))), (by repeat' (first | exact trivial | exact rfl | refine And.intro ?_ ?_ | ((conv => whnf); first | exact trivial | exact rfl | refine And.intro ?_ ?_ | omega))), ?_⟩
              conv => whnf
              generalize atF pt a = za at *
              generalize atF pt b = zb at *
              refine ⟨zb - za, wrapId (z := zb - za) ⟨by omega, by omega⟩, ?_⟩
              conv => whnf
              refine ⟨fun hc => absurd (of_decide_eq_true (show decide (zb - za < lo) = true from hc)) (by omega), fun hc => ?_⟩
              conv => whnf
              refine ⟨fun hc => absurd (of_decide_eq_true (show decide (hi < zb - za) = true from hc)) (by omega), fun hc => ?_⟩
              conv => whnf
              refine call_step hbf rfl rfl ?_
              conv => whnf
              refine ⟨(by repeat' (first | exact trivial | exact rfl | refine And.intro ?_ ?_ | ((conv => whnf); first | exact trivial | exact rfl | refine And.intro ?_ ?_ | omega))), (by repeat' (first | exact trivial | exact rfl | refine And.intro ?_ ?_ | ((conv => whnf); first | exact trivial | exact rfl | refine And.intro ?_ ?_ | omega))), ?_⟩
              conv => whnf
              refine call_step hlf rfl rfl ?_
              conv => whnf
              refine ⟨(by repeat' (first | exact trivial | exact rfl | refine And.intro ?_ ?_ | ((conv => whnf); first | exact trivial | exact rfl | refine And.intro ?_ ?_ | omega))), (by repeat' (first | exact trivial | exact rfl | refine And.intro ?_ ?_ | ((conv => whnf); first | exact trivial | exact rfl | refine And.intro ?_ ?_ | omega))), ?_⟩
              conv => whnf
              refine call_step hat rfl rfl ?_
              conv => whnf
              refine ⟨(by repeat' (first | exact trivial | exact rfl | refine And.intro ?_ ?_ | ((conv => whnf); first | exact trivial | exact rfl | refine And.intro ?_ ?_ | omega))), (by repeat' (first | exact trivial | exact rfl | refine And.intro ?_ ?_ | ((conv => whnf); first | exact trivial | exact rfl | refine And.intro ?_ ?_ | omega))), ?_⟩
              conv => whnf
              refine ⟨fun hc => absurd hc (by simp), fun hc => ?_⟩
              conv => whnf
              refine ⟨fun hc => absurd hc (by simp), fun hc => ?_⟩
              conv => whnf
              refine ⟨fun hc => absurd (of_decide_eq_true (show decide (v1 < v) = true from hc)) (by omega), fun hc => ?_⟩
              conv => whnf
              refine ⟨fun hc => absurd (of_decide_eq_true (show decide (v < -v2) = true from hc)) (by omega), fun hc => ?_⟩
              conv => whnf
              refine call_step hT rfl rfl ?_
              conv => whnf
              refine ⟨(by repeat' (first | exact trivial | exact rfl | refine And.intro ?_ ?_ | ((conv => whnf); first | exact trivial | exact rfl | refine And.intro ?_ ?_ | omega))), (by repeat' (first | exact trivial | exact rfl | refine And.intro ?_ ?_ | ((conv => whnf); first | exact trivial | exact rfl | refine And.intro ?_ ?_ | omega))), ?_⟩
              conv => whnf
              refine ⟨fun hc => ?_, fun hc => absurd (by simpa using (show (c != 0) = false from hc)) hcn⟩
              conv => whnf
              refine ⟨fun hc => ?_, fun hc => absurd hc (by simp)⟩
              conv => whnf
              repeat' (first | exact trivial | exact rfl | refine And.intro ?_ ?_ | ((conv => whnf); first | exact trivial | exact rfl | refine And.intro ?_ ?_ | omega))
            · conv => whnf
              refine call_step hbf rfl rfl ?_
              conv => whnf
              refine ⟨(by repeat' (first | exact trivial | exact rfl | refine And.intro ?_ ?_ | ((conv => whnf); first | exact trivial | exact rfl | refine And.intro ?_ ?_ | omega))), (by repeat' (first | exact trivial | exact rfl | refine And.intro ?_ ?_ | ((conv => whnf); first | exact trivial | exact rfl | refine And.intro ?_ ?_ | omega))), ?_⟩
              conv => whnf
              refine call_step hlf rfl rfl ?_
              conv => whnf
              refine ⟨(by repeat' (first | exact trivial | exact rfl | refine And.intro ?_ ?_ | ((conv => whnf); first | exact trivial | exact rfl | refine And.intro ?_ ?_ | omega))), (by repeat' (first | exact trivial | exact rfl | refine And.intro ?_ ?_ | ((conv => whnf); first | exact trivial | exact rfl | refine And.intro ?_ ?_ | omega))), ?_⟩
              conv => whnf
              refine call_step hat rfl rfl ?_
              conv => whnf
              refine ⟨(by repeat' (first | exact trivial | exact rfl | refine And.intro ?_ ?_ | ((conv => whnf); first | exact trivial | exact rfl | refine And.intro ?_ ?_ | omega))), (by repeat' (first | exact trivial | exact rfl | refine And.intro ?_ ?_ | ((conv => whnf); first | exact trivial | exact rfl | refine And.intro ?_ ?_ | omega))), ?_⟩
              conv => whnf
              refine ⟨fun hc => absurd hc (by simp), fun hc => ?_⟩
              conv => whnf
              refine ⟨fun hc => absurd hc (by simp), fun hc => ?_⟩
              conv => whnf
              refine ⟨fun hc => absurd (of_decide_eq_true (show decide (v1 < v) = true from hc)) (by omega), fun hc => ?_⟩
              conv => whnf
              refine ⟨fun hc => absurd (of_decide_eq_true (show decide (v < -v2) = true from hc)) (by omega), fun hc => ?_⟩
              conv => whnf
              refine call_step hT rfl rfl ?_
              conv => whnf
              refine ⟨(by repeat' (first | exact trivial | exact rfl | refine And.intro ?_ ?_ | ((conv => whnf); first | exact trivial | exact rfl | refine And.intro ?_ ?_ | omega))), (by repeat' (first | exact trivial | exact rfl | refine And.intro ?_ ?_ | ((conv => whnf); first | exact trivial | exact rfl | refine And.intro ?_ ?_ | omega))), ?_⟩
              conv => whnf
              refine ⟨fun hc => ?_, fun hc => absurd (by simpa using (show (c != 0) = false from hc)) hcn⟩
              conv => whnf
              refine ⟨fun hc => ?_, fun hc => absurd hc (by simp)⟩
              conv => whnf
              repeat' (first | exact trivial | exact rfl | refine And.intro ?_ ?_ | ((conv => whnf); first | exact trivial | exact rfl | refine And.intro ?_ ?_ | omega))
          · skip
            refine triple_of tB_ok Try.func17 rfl Try.call17 rfl ?_
            intro ρ w hH
            conv => whnf
            refine call_step head_t rfl rfl ?_
            conv => whnf
            refine ⟨(by repeat' (first | exact trivial | exact rfl | refine And.intro ?_ ?_ | ((conv => whnf); first | exact trivial | exact rfl | refine And.intro ?_ ?_ | omega))), (by repeat' (first | exact trivial | exact rfl | refine And.intro ?_ ?_ | ((conv => whnf); first | exact trivial | exact rfl | refine And.intro ?_ ?_ | omega))), ?_⟩
            conv => whnf
            refine call_step (startYes_t bs ls h) rfl rfl ?_
            conv => whnf
            refine ⟨(by repeat' (first | exact trivial | exact rfl | refine And.intro ?_ ?_ | ((conv => whnf); first | exact trivial | exact rfl | refine And.intro ?_ ?_ | omega))), (by repeat' (first | exact trivial | exact rfl | refine And.intro ?_ ?_ | ((conv => whnf); first | exact trivial | exact rfl | refine And.intro ?_ ?_ | omega))), ?_⟩
            conv => whnf
            refine call_step (lawFormed_t bs ls form 1024 (by omega) (by omega)) rfl rfl ?_
            conv => whnf
            refine ⟨(by repeat' (first | exact trivial | exact rfl | refine And.intro ?_ ?_ | ((conv => whnf); first | exact trivial | exact rfl | refine And.intro ?_ ?_ | omega))), (by repeat' (first | exact trivial | exact rfl | refine And.intro ?_ ?_ | ((conv => whnf); first | exact trivial | exact rfl | refine And.intro ?_ ?_ | omega))), ?_⟩
            conv => whnf
            rw [hF]
            refine ⟨fun hc => absurd hc (by simp), fun hc => ?_⟩
            conv => whnf
            refine call_step (lawFormed_t bs ls den 1024 (by omega) (by omega)) rfl rfl ?_
            conv => whnf
            refine ⟨(by repeat' (first | exact trivial | exact rfl | refine And.intro ?_ ?_ | ((conv => whnf); first | exact trivial | exact rfl | refine And.intro ?_ ?_ | omega))), (by repeat' (first | exact trivial | exact rfl | refine And.intro ?_ ?_ | ((conv => whnf); first | exact trivial | exact rfl | refine And.intro ?_ ?_ | omega))), ?_⟩
            conv => whnf
            rw [hG]
            refine ⟨fun hc => absurd hc (by simp), fun hc => ?_⟩
            conv => whnf
            refine call_step hal rfl rfl ?_
            conv => whnf
            refine ⟨(by repeat' (first | exact trivial | exact rfl | refine And.intro ?_ ?_ | ((conv => whnf); first | exact trivial | exact rfl | refine And.intro ?_ ?_ | omega))), (by repeat' (first | exact trivial | exact rfl | refine And.intro ?_ ?_ | ((conv => whnf); first | exact trivial | exact rfl | refine And.intro ?_ ?_ | omega))), ?_⟩
            conv => whnf
            refine ⟨fun hc => absurd hc (by simp), fun hc => ?_⟩
            conv => whnf
            refine ⟨fun hc => absurd (show ((pt.length : Int) != bs.length) = true from hc) (by rw [hpl]; simp), fun hc => ?_⟩
            conv => whnf
            refine call_step hr rfl rfl ?_
            conv => whnf
            refine ⟨(by repeat' (first | exact trivial | exact rfl | refine And.intro ?_ ?_ | ((conv => whnf); first | exact trivial | exact rfl | refine And.intro ?_ ?_ | omega))), (by repeat' (first | exact trivial | exact rfl | refine And.intro ?_ ?_ | ((conv => whnf); first | exact trivial | exact rfl | refine And.intro ?_ ?_ | omega))), ?_⟩
            conv => whnf
            refine ⟨fun hc => ?_, fun hc => ?_⟩
            · have he : e = 0 := by simpa using (show (e == 0) = true from hc)
              obtain ⟨d1, d2, d3, d4⟩ := hrg he
              conv => whnf
              refine call_step (at_t pt b d1) rfl rfl ?_
              conv => whnf
              refine ⟨(by repeat' (first | exact trivial | exact rfl | refine And.intro ?_ ?_ | ((conv => whnf); first | exact trivial | exact rfl | refine And.intro ?_ ?_ | omega))), (by repeat' (first | exact trivial | exact rfl | refine And.intro ?_ ?_ | ((conv => whnf); first | exact trivial | exact rfl | refine And.intro ?_ ?_ | omega))), ?_⟩
              conv => whnf
              refine call_step (at_t pt a d2) rfl rfl ?_
              conv => whnf
              refine ⟨(by repeat' (first | exact trivial | exact rfl | refine And.intro ?_ ?_ | ((conv => whnf); first | exact trivial | exact rfl | refine And.intro ?_ ?_ | omega))), (by repeat' (first | exact trivial | exact rfl | refine And.intro ?_ ?_ | ((conv => whnf); first | exact trivial | exact rfl | refine And.intro ?_ ?_ | omega))), ?_⟩
              conv => whnf
              generalize atF pt a = za at *
              generalize atF pt b = zb at *
              refine ⟨zb - za, wrapId (z := zb - za) ⟨by omega, by omega⟩, ?_⟩
              conv => whnf
              refine ⟨fun hc => absurd (of_decide_eq_true (show decide (zb - za < lo) = true from hc)) (by omega), fun hc => ?_⟩
              conv => whnf
              refine ⟨fun hc => absurd (of_decide_eq_true (show decide (hi < zb - za) = true from hc)) (by omega), fun hc => ?_⟩
              conv => whnf
              refine call_step hbf rfl rfl ?_
              conv => whnf
              refine ⟨(by repeat' (first | exact trivial | exact rfl | refine And.intro ?_ ?_ | ((conv => whnf); first | exact trivial | exact rfl | refine And.intro ?_ ?_ | omega))), (by repeat' (first | exact trivial | exact rfl | refine And.intro ?_ ?_ | ((conv => whnf); first | exact trivial | exact rfl | refine And.intro ?_ ?_ | omega))), ?_⟩
              conv => whnf
              refine call_step hlf rfl rfl ?_
              conv => whnf
              refine ⟨(by repeat' (first | exact trivial | exact rfl | refine And.intro ?_ ?_ | ((conv => whnf); first | exact trivial | exact rfl | refine And.intro ?_ ?_ | omega))), (by repeat' (first | exact trivial | exact rfl | refine And.intro ?_ ?_ | ((conv => whnf); first | exact trivial | exact rfl | refine And.intro ?_ ?_ | omega))), ?_⟩
              conv => whnf
              refine call_step hat rfl rfl ?_
              conv => whnf
              refine ⟨(by repeat' (first | exact trivial | exact rfl | refine And.intro ?_ ?_ | ((conv => whnf); first | exact trivial | exact rfl | refine And.intro ?_ ?_ | omega))), (by repeat' (first | exact trivial | exact rfl | refine And.intro ?_ ?_ | ((conv => whnf); first | exact trivial | exact rfl | refine And.intro ?_ ?_ | omega))), ?_⟩
              conv => whnf
              refine ⟨fun hc => absurd hc (by simp), fun hc => ?_⟩
              conv => whnf
              refine ⟨fun hc => absurd hc (by simp), fun hc => ?_⟩
              conv => whnf
              refine ⟨fun hc => absurd (of_decide_eq_true (show decide (v1 < v) = true from hc)) (by omega), fun hc => ?_⟩
              conv => whnf
              refine ⟨fun hc => absurd (of_decide_eq_true (show decide (v < -v2) = true from hc)) (by omega), fun hc => ?_⟩
              conv => whnf
              refine call_step hT rfl rfl ?_
              conv => whnf
              refine ⟨(by repeat' (first | exact trivial | exact rfl | refine And.intro ?_ ?_ | ((conv => whnf); first | exact trivial | exact rfl | refine And.intro ?_ ?_ | omega))), (by repeat' (first | exact trivial | exact rfl | refine And.intro ?_ ?_ | ((conv => whnf); first | exact trivial | exact rfl | refine And.intro ?_ ?_ | omega))), ?_⟩
              conv => whnf
              refine ⟨fun hc => absurd hc (by simp), fun hc => ?_⟩
              conv => whnf
              refine call_step had rfl rfl ?_
              conv => whnf
              refine ⟨(by repeat' (first | exact trivial | exact rfl | refine And.intro ?_ ?_ | ((conv => whnf); first | exact trivial | exact rfl | refine And.intro ?_ ?_ | omega))), (by repeat' (first | exact trivial | exact rfl | refine And.intro ?_ ?_ | ((conv => whnf); first | exact trivial | exact rfl | refine And.intro ?_ ?_ | omega))), ?_⟩
              conv => whnf
              refine ⟨fun hc => ?_, fun hc => absurd hc (by simp)⟩
              conv => whnf
              refine ⟨fun hc => ?_, fun hc => absurd (of_decide_eq_false (show decide (0 < q) = false from hc)) (by omega)⟩
              conv => whnf
              refine ⟨fun hc => ?_, fun hc => absurd (of_decide_eq_false (show decide (0 < x) = false from hc)) (by omega)⟩
              conv => whnf
              refine ⟨v * q, wrapId ⟨by omega, by omega⟩, ?_⟩
              conv => whnf
              refine ⟨p * x, wrapId ⟨by omega, by omega⟩, ?_⟩
              conv => whnf
              refine ⟨?_, trivial⟩
              exact decide_eq_true (show v * q ≤ p * x by omega)
            · conv => whnf
              refine call_step hbf rfl rfl ?_
              conv => whnf
              refine ⟨(by repeat' (first | exact trivial | exact rfl | refine And.intro ?_ ?_ | ((conv => whnf); first | exact trivial | exact rfl | refine And.intro ?_ ?_ | omega))), (by repeat' (first | exact trivial | exact rfl | refine And.intro ?_ ?_ | ((conv => whnf); first | exact trivial | exact rfl | refine And.intro ?_ ?_ | omega))), ?_⟩
              conv => whnf
              refine call_step hlf rfl rfl ?_
              conv => whnf
              refine ⟨(by repeat' (first | exact trivial | exact rfl | refine And.intro ?_ ?_ | ((conv => whnf); first | exact trivial | exact rfl | refine And.intro ?_ ?_ | omega))), (by repeat' (first | exact trivial | exact rfl | refine And.intro ?_ ?_ | ((conv => whnf); first | exact trivial | exact rfl | refine And.intro ?_ ?_ | omega))), ?_⟩
              conv => whnf
              refine call_step hat rfl rfl ?_
              conv => whnf
              refine ⟨(by repeat' (first | exact trivial | exact rfl | refine And.intro ?_ ?_ | ((conv => whnf); first | exact trivial | exact rfl | refine And.intro ?_ ?_ | omega))), (by repeat' (first | exact trivial | exact rfl | refine And.intro ?_ ?_ | ((conv => whnf); first | exact trivial | exact rfl | refine And.intro ?_ ?_ | omega))), ?_⟩
              conv => whnf
              refine ⟨fun hc => absurd hc (by simp), fun hc => ?_⟩
              conv => whnf
              refine ⟨fun hc => absurd hc (by simp), fun hc => ?_⟩
              conv => whnf
              refine ⟨fun hc => absurd (of_decide_eq_true (show decide (v1 < v) = true from hc)) (by omega), fun hc => ?_⟩
              conv => whnf
              refine ⟨fun hc => absurd (of_decide_eq_true (show decide (v < -v2) = true from hc)) (by omega), fun hc => ?_⟩
              conv => whnf
              refine call_step hT rfl rfl ?_
              conv => whnf
              refine ⟨(by repeat' (first | exact trivial | exact rfl | refine And.intro ?_ ?_ | ((conv => whnf); first | exact trivial | exact rfl | refine And.intro ?_ ?_ | omega))), (by repeat' (first | exact trivial | exact rfl | refine And.intro ?_ ?_ | ((conv => whnf); first | exact trivial | exact rfl | refine And.intro ?_ ?_ | omega))), ?_⟩
              conv => whnf
              refine ⟨fun hc => absurd hc (by simp), fun hc => ?_⟩
              conv => whnf
              refine call_step had rfl rfl ?_
              conv => whnf
              refine ⟨(by repeat' (first | exact trivial | exact rfl | refine And.intro ?_ ?_ | ((conv => whnf); first | exact trivial | exact rfl | refine And.intro ?_ ?_ | omega))), (by repeat' (first | exact trivial | exact rfl | refine And.intro ?_ ?_ | ((conv => whnf); first | exact trivial | exact rfl | refine And.intro ?_ ?_ | omega))), ?_⟩
              conv => whnf
              refine ⟨fun hc => ?_, fun hc => absurd hc (by simp)⟩
              conv => whnf
              refine ⟨fun hc => ?_, fun hc => absurd (of_decide_eq_false (show decide (0 < q) = false from hc)) (by omega)⟩
              conv => whnf
              refine ⟨fun hc => ?_, fun hc => absurd (of_decide_eq_false (show decide (0 < x) = false from hc)) (by omega)⟩
              conv => whnf
              refine ⟨v * q, wrapId ⟨by omega, by omega⟩, ?_⟩
              conv => whnf
              refine ⟨p * x, wrapId ⟨by omega, by omega⟩, ?_⟩
              conv => whnf
              refine ⟨?_, trivial⟩
              exact decide_eq_true (show v * q ≤ p * x by omega)
        · have hba : t = true := by rw [hba]; simpa using ha
          subst hba
          refine triple_of tB_ok Try.func17 rfl Try.call17 rfl ?_
          intro ρ w hH
          conv => whnf
          refine call_step head_t rfl rfl ?_
          conv => whnf
          refine ⟨(by repeat' (first | exact trivial | exact rfl | refine And.intro ?_ ?_ | ((conv => whnf); first | exact trivial | exact rfl | refine And.intro ?_ ?_ | omega))), (by repeat' (first | exact trivial | exact rfl | refine And.intro ?_ ?_ | ((conv => whnf); first | exact trivial | exact rfl | refine And.intro ?_ ?_ | omega))), ?_⟩
          conv => whnf
          refine call_step (startYes_t bs ls h) rfl rfl ?_
          conv => whnf
          refine ⟨(by repeat' (first | exact trivial | exact rfl | refine And.intro ?_ ?_ | ((conv => whnf); first | exact trivial | exact rfl | refine And.intro ?_ ?_ | omega))), (by repeat' (first | exact trivial | exact rfl | refine And.intro ?_ ?_ | ((conv => whnf); first | exact trivial | exact rfl | refine And.intro ?_ ?_ | omega))), ?_⟩
          conv => whnf
          refine call_step (lawFormed_t bs ls form 1024 (by omega) (by omega)) rfl rfl ?_
          conv => whnf
          refine ⟨(by repeat' (first | exact trivial | exact rfl | refine And.intro ?_ ?_ | ((conv => whnf); first | exact trivial | exact rfl | refine And.intro ?_ ?_ | omega))), (by repeat' (first | exact trivial | exact rfl | refine And.intro ?_ ?_ | ((conv => whnf); first | exact trivial | exact rfl | refine And.intro ?_ ?_ | omega))), ?_⟩
          conv => whnf
          rw [hF]
          refine ⟨fun hc => absurd hc (by simp), fun hc => ?_⟩
          conv => whnf
          refine call_step (lawFormed_t bs ls den 1024 (by omega) (by omega)) rfl rfl ?_
          conv => whnf
          refine ⟨(by repeat' (first | exact trivial | exact rfl | refine And.intro ?_ ?_ | ((conv => whnf); first | exact trivial | exact rfl | refine And.intro ?_ ?_ | omega))), (by repeat' (first | exact trivial | exact rfl | refine And.intro ?_ ?_ | ((conv => whnf); first | exact trivial | exact rfl | refine And.intro ?_ ?_ | omega))), ?_⟩
          conv => whnf
          rw [hG]
          refine ⟨fun hc => absurd hc (by simp), fun hc => ?_⟩
          conv => whnf
          refine call_step hal rfl rfl ?_
          conv => whnf
          refine ⟨(by repeat' (first | exact trivial | exact rfl | refine And.intro ?_ ?_ | ((conv => whnf); first | exact trivial | exact rfl | refine And.intro ?_ ?_ | omega))), (by repeat' (first | exact trivial | exact rfl | refine And.intro ?_ ?_ | ((conv => whnf); first | exact trivial | exact rfl | refine And.intro ?_ ?_ | omega))), ?_⟩
          conv => whnf
          refine ⟨fun hc => ?_, fun hc => absurd hc (by simp)⟩
          conv => whnf
          repeat' (first | exact trivial | exact rfl | refine And.intro ?_ ?_ | ((conv => whnf); first | exact trivial | exact rfl | refine And.intro ?_ ?_ | omega))
      · have hG : formedB bs.length den 1024 = false := by simpa using hG
        refine triple_of tB_ok Try.func17 rfl Try.call17 rfl ?_
        intro ρ w hH
        conv => whnf
        refine call_step head_t rfl rfl ?_
        conv => whnf
        refine ⟨(by repeat' (first | exact trivial | exact rfl | refine And.intro ?_ ?_ | ((conv => whnf); first | exact trivial | exact rfl | refine And.intro ?_ ?_ | omega))), (by repeat' (first | exact trivial | exact rfl | refine And.intro ?_ ?_ | ((conv => whnf); first | exact trivial | exact rfl | refine And.intro ?_ ?_ | omega))), ?_⟩
        conv => whnf
        refine call_step (startYes_t bs ls h) rfl rfl ?_
        conv => whnf
        refine ⟨(by repeat' (first | exact trivial | exact rfl | refine And.intro ?_ ?_ | ((conv => whnf); first | exact trivial | exact rfl | refine And.intro ?_ ?_ | omega))), (by repeat' (first | exact trivial | exact rfl | refine And.intro ?_ ?_ | ((conv => whnf); first | exact trivial | exact rfl | refine And.intro ?_ ?_ | omega))), ?_⟩
        conv => whnf
        refine call_step (lawFormed_t bs ls form 1024 (by omega) (by omega)) rfl rfl ?_
        conv => whnf
        refine ⟨(by repeat' (first | exact trivial | exact rfl | refine And.intro ?_ ?_ | ((conv => whnf); first | exact trivial | exact rfl | refine And.intro ?_ ?_ | omega))), (by repeat' (first | exact trivial | exact rfl | refine And.intro ?_ ?_ | ((conv => whnf); first | exact trivial | exact rfl | refine And.intro ?_ ?_ | omega))), ?_⟩
        conv => whnf
        rw [hF]
        refine ⟨fun hc => absurd hc (by simp), fun hc => ?_⟩
        conv => whnf
        refine call_step (lawFormed_t bs ls den 1024 (by omega) (by omega)) rfl rfl ?_
        conv => whnf
        refine ⟨(by repeat' (first | exact trivial | exact rfl | refine And.intro ?_ ?_ | ((conv => whnf); first | exact trivial | exact rfl | refine And.intro ?_ ?_ | omega))), (by repeat' (first | exact trivial | exact rfl | refine And.intro ?_ ?_ | ((conv => whnf); first | exact trivial | exact rfl | refine And.intro ?_ ?_ | omega))), ?_⟩
        conv => whnf
        rw [hG]
        refine ⟨fun hc => ?_, fun hc => absurd hc (by simp)⟩
        conv => whnf
        repeat' (first | exact trivial | exact rfl | refine And.intro ?_ ?_ | ((conv => whnf); first | exact trivial | exact rfl | refine And.intro ?_ ?_ | omega))
    · have hF : formedB bs.length form 1024 = false := by simpa using hF
      refine triple_of tB_ok Try.func17 rfl Try.call17 rfl ?_
      intro ρ w hH
      conv => whnf
      refine call_step head_t rfl rfl ?_
      conv => whnf
      refine ⟨(by repeat' (first | exact trivial | exact rfl | refine And.intro ?_ ?_ | ((conv => whnf); first | exact trivial | exact rfl | refine And.intro ?_ ?_ | omega))), (by repeat' (first | exact trivial | exact rfl | refine And.intro ?_ ?_ | ((conv => whnf); first | exact trivial | exact rfl | refine And.intro ?_ ?_ | omega))), ?_⟩
      conv => whnf
      refine call_step (startYes_t bs ls h) rfl rfl ?_
      conv => whnf
      refine ⟨(by repeat' (first | exact trivial | exact rfl | refine And.intro ?_ ?_ | ((conv => whnf); first | exact trivial | exact rfl | refine And.intro ?_ ?_ | omega))), (by repeat' (first | exact trivial | exact rfl | refine And.intro ?_ ?_ | ((conv => whnf); first | exact trivial | exact rfl | refine And.intro ?_ ?_ | omega))), ?_⟩
      conv => whnf
      refine call_step (lawFormed_t bs ls form 1024 (by omega) (by omega)) rfl rfl ?_
      conv => whnf
      refine ⟨(by repeat' (first | exact trivial | exact rfl | refine And.intro ?_ ?_ | ((conv => whnf); first | exact trivial | exact rfl | refine And.intro ?_ ?_ | omega))), (by repeat' (first | exact trivial | exact rfl | refine And.intro ?_ ?_ | ((conv => whnf); first | exact trivial | exact rfl | refine And.intro ?_ ?_ | omega))), ?_⟩
      conv => whnf
      rw [hF]
      refine ⟨fun hc => ?_, fun hc => absurd hc (by simp)⟩
      conv => whnf
      repeat' (first | exact trivial | exact rfl | refine And.intro ?_ ?_ | ((conv => whnf); first | exact trivial | exact rfl | refine And.intro ?_ ?_ | omega))
  · skip
    refine triple_of tB_ok Try.func17 rfl Try.call17 rfl ?_
    intro ρ w hH
    conv => whnf
    refine call_step head_t rfl rfl ?_
    conv => whnf
    refine ⟨(by repeat' (first | exact trivial | exact rfl | refine And.intro ?_ ?_ | ((conv => whnf); first | exact trivial | exact rfl | refine And.intro ?_ ?_ | omega))), (by repeat' (first | exact trivial | exact rfl | refine And.intro ?_ ?_ | ((conv => whnf); first | exact trivial | exact rfl | refine And.intro ?_ ?_ | omega))), ?_⟩
    conv => whnf
    refine call_step (startNo_t bs ls h) rfl rfl ?_
    conv => whnf
    refine ⟨(by repeat' (first | exact trivial | exact rfl | refine And.intro ?_ ?_ | ((conv => whnf); first | exact trivial | exact rfl | refine And.intro ?_ ?_ | omega))), (by repeat' (first | exact trivial | exact rfl | refine And.intro ?_ ?_ | ((conv => whnf); first | exact trivial | exact rfl | refine And.intro ?_ ?_ | omega))), ?_⟩
    conv => whnf
    repeat' (first | exact trivial | exact rfl | refine And.intro ?_ ?_ | ((conv => whnf); first | exact trivial | exact rfl | refine And.intro ?_ ?_ | omega))

end Go.Proofs

