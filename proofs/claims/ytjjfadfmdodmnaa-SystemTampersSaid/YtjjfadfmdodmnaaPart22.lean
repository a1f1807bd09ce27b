/-
  A part of the proof that a law of dryweightlaw03 answers true: lemmas of a symbolic walk, plain functions, or contracts of the functions walked (Za, Xq, Zb, Zc, Zi, Sx35, Zj, Sx36, Zk, Zl, Pm18, Zm, Zn, Zo, Zp, Zq, Sx37, Zr, Zs). Conditions: none.
-/
import Derived.Test.YtjjfadfmdodmnaaPart21
import Derived.Test.YtjjfadfmdodmnaaPart19
import Derived.Test.YtjjfadfmdodmnaaPart20
set_option maxRecDepth 100000
set_option linter.unusedVariables false
set_option linter.unusedSimpArgs false
namespace Go.Proofs
open Go.Sx

theorem topDiv_t (bs : List (Int × Int)) (ls : List Lnk) (num den : List (Int × Int)) (hb : bs.length ≤ 240) (hn : num.length ≤ 1000) (hd : den.length ≤ 1000) (hF : formsF bs num den ≠ 0) :
    Triple Try.prog 59 [.c (.p 0 0 0 0), .c (.s 3 0 num.length 2), .c (.s 4 0 den.length 2)] ((3, false, .arr (aSpan num)) :: (4, false, .arr (aSpan den)) :: netH bs ls) 5
      (.tup [.inr [.v (.int .i64 0), .v (.int .i64 0), .v (.slice none 0 0), .v (.slice none 0 0)], .inl (.v (.int .i64 (formsF bs num den)))]) [] := by
  have hdv := divides_t bs ls num den hb hn hd
  generalize formsF bs num den = c at *
  refine triple_of tB_ok Try.func59 rfl Try.call59 rfl ?_
  intro ρ w hH
  conv => whnf
  refine call_step hdv rfl rfl ?_
  conv => whnf
  refine ⟨(by repeat' (first | exact trivial | exact rfl | refine And.intro ?_ ?_ | ((conv => whnf); first | exact trivial | exact rfl | refine And.intro ?_ ?_ | omega))), (by repeat' (first | exact trivial | exact rfl | refine And.intro ?_ ?_ | ((conv => whnf); first | exact trivial | exact rfl | refine And.intro ?_ ?_ | omega))), ?_⟩
  conv => whnf
  refine ⟨fun hc => ?_, fun hc => absurd (by simpa using (show (c != 0) = false from hc)) hF⟩
  conv => whnf
  repeat' (first | exact trivial | exact rfl | refine And.intro ?_ ?_ | ((conv => whnf); first | exact trivial | exact rfl | refine And.intro ?_ ?_ | omega))

theorem topRange_t (bs : List (Int × Int)) (ls : List Lnk) (num den : List (Int × Int)) (h : NetW bs ls) (hn : num.length ≤ 1000) (hd : den.length ≤ 1000) (hF : formsF bs num den = 0) (v : Int) (flow : List (Int)) (pt0 : List Int)
    (l2 : (coefF (-1) den (List.replicate bs.length 0)).length = bs.length) (b2 : ∀ x ∈ coefF (-1) den (List.replicate bs.length 0), -1024 ≤ x ∧ x ≤ 1024) (hB2 : bestF bs.length (graphF bs ls 0) 68719476737 (coefF (-1) den (List.replicate bs.length 0)) = some (v, usesF (allF bs ls) flow, pt0)) (hv : 0 ≤ v) :
    Triple Try.prog 59 [.c (.p 0 0 0 0), .c (.s 3 0 num.length 2), .c (.s 4 0 den.length 2)] ((3, false, .arr (aSpan num)) :: (4, false, .arr (aSpan den)) :: netH bs ls) 5
      (.tup [.inr [.v (.int .i64 0), .v (.int .i64 0), .v (.slice none 0 0), .v (.slice none 0 0)], .inl (.v (.int .i64 3))]) [] := by
  have hfew := h.few
  have hdv := divides_t bs ls num den (by omega) hn hd
  have hco := coef_nil_t bs.length den (-1) 0 (by omega) (by omega) (formB_of (formsF_ok hF).2.1 (by omega))
  refine triple_of tB_ok Try.func59 rfl Try.call59 rfl ?_
  intro ρ w hH
  conv => whnf
  refine call_step hdv rfl rfl ?_
  conv => whnf
  refine ⟨(by repeat' (first | exact trivial | exact rfl | refine And.intro ?_ ?_ | ((conv => whnf); first | exact trivial | exact rfl | refine And.intro ?_ ?_ | omega))), (by repeat' (first | exact trivial | exact rfl | refine And.intro ?_ ?_ | ((conv => whnf); first | exact trivial | exact rfl | refine And.intro ?_ ?_ | omega))), ?_⟩
  conv => whnf
  rw [hF]
  refine ⟨fun hc => absurd hc (by simp), fun hc => ?_⟩
  conv => whnf
  refine call_step hco rfl rfl ?_
  conv => whnf
  refine ⟨(by repeat' (first | exact trivial | exact rfl | refine And.intro ?_ ?_ | ((conv => whnf); first | exact trivial | exact rfl | refine And.intro ?_ ?_ | omega))), (by repeat' (first | exact trivial | exact rfl | refine And.intro ?_ ?_ | ((conv => whnf); first | exact trivial | exact rfl | refine And.intro ?_ ?_ | omega))), ?_⟩
  conv => whnf
  refine call_step (best_t bs ls _ 68719476737 v (usesF (allF bs ls) flow) pt0 h.sys l2 (fun x hx => by have := b2 x hx; omega) hB2) rfl rfl ?_
  conv => whnf
  refine ⟨(by repeat' (first | exact trivial | exact rfl | refine And.intro ?_ ?_ | ((conv => whnf); first | exact trivial | exact rfl | refine And.intro ?_ ?_ | omega))), (by repeat' (first | exact trivial | exact rfl | refine And.intro ?_ ?_ | ((conv => whnf); first | exact trivial | exact rfl | refine And.intro ?_ ?_ | omega))), ?_⟩
  conv => whnf
  refine ⟨fun hc => ?_, fun hc => absurd (of_decide_eq_false (show decide (0 ≤ v) = false from hc)) (by omega)⟩
  conv => whnf
  repeat' (first | exact trivial | exact rfl | refine And.intro ?_ ?_ | ((conv => whnf); first | exact trivial | exact rfl | refine And.intro ?_ ?_ | omega))

theorem topYes_t (bs : List (Int × Int)) (ls : List Lnk) (num den : List (Int × Int)) (h : NetW bs ls) (hn : num.length ≤ 1000) (hd : den.length ≤ 1000) (hF : formsF bs num den = 0) (v : Int) (flow : List (Int)) (pt0 : List Int)
    (l2 : (coefF (-1) den (List.replicate bs.length 0)).length = bs.length) (b2 : ∀ x ∈ coefF (-1) den (List.replicate bs.length 0), -1024 ≤ x ∧ x ≤ 1024) (hB2 : bestF bs.length (graphF bs ls 0) 68719476737 (coefF (-1) den (List.replicate bs.length 0)) = some (v, usesF (allF bs ls) flow, pt0)) (hv : v < 0)
    (ha0 : (allowsF bs ls pt0).2 = true) (hpos : ∀ pt, (allowsF bs ls pt).2 = true → 1 ≤ valM den pt) (m : Nat) (p q : Int) (us : List (Lnk × Int)) (pt : List Int) (hT : topG bs ls num den m pt0 = some (p, q, us, pt)) (hok : TopOK bs ls num den p q us pt) :
    Triple Try.prog 59 [.c (.p 0 0 0 0), .c (.s 3 0 num.length 2), .c (.s 4 0 den.length 2)] ((3, false, .arr (aSpan num)) :: (4, false, .arr (aSpan den)) :: netH bs ls) 5
      (.tup [.inr [.v (.int .i64 p), .v (.int .i64 q), .s 5 0 us.length 5, .s 6 0 pt.length 1], .inl (.v (.int .i64 0))]) [(5, true, .arr (aUse us)), (6, true, .arr (aInt pt))] := by
  have hfew := h.few
  have hnb := h.sys.nb
  have hdv := divides_t bs ls num den (by omega) hn hd
  obtain ⟨fn, fd, _, _⟩ := formsF_ok hF
  obtain ⟨n1, n2, n3⟩ := formF_ok fn
  obtain ⟨d1, d2, d3⟩ := formF_ok fd
  have hco := coef_nil_t bs.length den (-1) 0 (by omega) (by omega) (formB_of fd (by omega))
  refine triple_of tB_ok Try.func59 rfl Try.call59 rfl ?_
  intro ρ w hH
  conv => whnf
  refine call_step hdv rfl rfl ?_
  conv => whnf
  refine ⟨(by repeat' (first | exact trivial | exact rfl | refine And.intro ?_ ?_ | ((conv => whnf); first | exact trivial | exact rfl | refine And.intro ?_ ?_ | omega))), (by repeat' (first | exact trivial | exact rfl | refine And.intro ?_ ?_ | ((conv => whnf); first | exact trivial | exact rfl | refine And.intro ?_ ?_ | omega))), ?_⟩
  conv => whnf
  rw [hF]
  refine ⟨fun hc => absurd hc (by simp), fun hc => ?_⟩
  conv => whnf
  refine call_step hco rfl rfl ?_
  conv => whnf
  refine ⟨(by repeat' (first | exact trivial | exact rfl | refine And.intro ?_ ?_ | ((conv => whnf); first | exact trivial | exact rfl | refine And.intro ?_ ?_ | omega))), (by repeat' (first | exact trivial | exact rfl | refine And.intro ?_ ?_ | ((conv => whnf); first | exact trivial | exact rfl | refine And.intro ?_ ?_ | omega))), ?_⟩
  conv => whnf
  refine call_step (best_t bs ls _ 68719476737 v (usesF (allF bs ls) flow) pt0 h.sys l2 (fun x hx => by have := b2 x hx; omega) hB2) rfl rfl ?_
  conv => whnf
  refine ⟨(by repeat' (first | exact trivial | exact rfl | refine And.intro ?_ ?_ | ((conv => whnf); first | exact trivial | exact rfl | refine And.intro ?_ ?_ | omega))), (by repeat' (first | exact trivial | exact rfl | refine And.intro ?_ ?_ | ((conv => whnf); first | exact trivial | exact rfl | refine And.intro ?_ ?_ | omega))), ?_⟩
  conv => whnf
  refine ⟨fun hc => absurd (of_decide_eq_true (show decide (0 ≤ v) = true from hc)) (by omega), fun hc => ?_⟩
  conv => whnf
  refine loop_step tB_ok (G := Nat × List Int) 1 [8, 9] (fun g => [(11, .c (.s 10 0 g.2.length 1))]) (fun g => [(10, true, .arr (aInt g.2))]) (fun g => (allowsF bs ls g.2).2 = true ∧ topG bs ls num den g.1 g.2 = some (p, q, us, pt)) (fun g => g.1) ?_
  conv => whnf
  refine ⟨⟨(m, pt0), ⟨ha0, hT⟩, ?_⟩, ?_⟩
  · conv => whnf
    repeat' (first | exact trivial | exact rfl | refine And.intro ?_ ?_ | ((conv => whnf); first | exact trivial | exact rfl | refine And.intro ?_ ?_ | omega))
  rintro ⟨k, x⟩ ⟨hax, hTx⟩ ρ1 t1 hρ1
  have hax : (allowsF bs ls x).2 = true := hax
  have hTx : topG bs ls num den k x = some (p, q, us, pt) := hTx
  obtain ⟨d, p1, q1, hd, hd1, hd2, hp, hq, tp, tq, qb, pb, bn, bd, hcop, hfb1, hfb2, hl, hb, flow1, x', v1, hB, hvb, hsh, hal, hul, hval, hmost⟩ := top_step h hF hpos hax
  obtain ⟨hxl, hxp⟩ := (allows_iff h.sys).1 hax
  have hxb := pot_bd h.sys hxl hxp
  have v1t := value_sys_t num x (by omega) (by rw [hxl]; exact n2) (fun y hy => by have := hxb y hy; omega)
  have v2t := value_sys_t den x (by omega) (by rw [hxl]; exact d2) (fun y hy => by have := hxb y hy; omega)
  have cmt := common_t (valM num x) (valM den x) (by omega) (by omega)
  rw [← hd] at cmt
  have cft := coef2_t bs.length num den q1 (-p1) (by omega) (by omega) (by omega) hfb1 hfb2
  have bst := best_t bs ls _ 68719476737 v1 (usesF (allF bs ls) flow1) x' h.sys hl (fun y hy => by have := hb y hy; omega) hB
  cases k with
  | zero => cases hTx
  | succ k =>
  unfold topG at hTx
  rw [← hd, tp, tq, hB] at hTx
  dsimp only at hTx
  generalize coefF (-p1) den (coefF q1 num (List.replicate bs.length 0)) = cf at *
  generalize usesF (allF bs ls) flow1 = us1 at *
  generalize valM num x = a at *
  generalize valM den x = b at *
  dsimp only
  conv => whnf
  refine call_step v1t rfl rfl ?_
  conv => whnf
  refine ⟨(by repeat' (first | exact trivial | exact rfl | refine And.intro ?_ ?_ | ((conv => whnf); first | exact trivial | exact rfl | refine And.intro ?_ ?_ | omega))), (by repeat' (first | exact trivial | exact rfl | refine And.intro ?_ ?_ | ((conv => whnf); first | exact trivial | exact rfl | refine And.intro ?_ ?_ | omega))), ?_⟩
  conv => whnf
  refine call_step v2t rfl rfl ?_
  conv => whnf
  refine ⟨(by repeat' (first | exact trivial | exact rfl | refine And.intro ?_ ?_ | ((conv => whnf); first | exact trivial | exact rfl | refine And.intro ?_ ?_ | omega))), (by repeat' (first | exact trivial | exact rfl | refine And.intro ?_ ?_ | ((conv => whnf); first | exact trivial | exact rfl | refine And.intro ?_ ?_ | omega))), ?_⟩
  conv => whnf
  refine call_step cmt rfl rfl ?_
  conv => whnf
  refine ⟨(by repeat' (first | exact trivial | exact rfl | refine And.intro ?_ ?_ | ((conv => whnf); first | exact trivial | exact rfl | refine And.intro ?_ ?_ | omega))), (by repeat' (first | exact trivial | exact rfl | refine And.intro ?_ ?_ | ((conv => whnf); first | exact trivial | exact rfl | refine And.intro ?_ ?_ | omega))), ?_⟩
  conv => whnf
  refine ⟨(show d ≠ 0 by omega), p1, (congrArg IntKind.i64.wrap tp).trans (wrapId ⟨by omega, by omega⟩), ?_⟩
  conv => whnf
  refine ⟨(show d ≠ 0 by omega), q1, (congrArg IntKind.i64.wrap tq).trans (wrapId ⟨by omega, by omega⟩), ?_⟩
  conv => whnf
  refine ⟨-p1, (congrArg IntKind.i64.wrap (show (0 : Int) - p1 = -p1 by omega)).trans (wrapId ⟨by omega, by omega⟩), ?_⟩
  conv => whnf
  refine call_step cft rfl rfl ?_
  conv => whnf
  refine ⟨(by repeat' (first | exact trivial | exact rfl | refine And.intro ?_ ?_ | ((conv => whnf); first | exact trivial | exact rfl | refine And.intro ?_ ?_ | omega))), (by repeat' (first | exact trivial | exact rfl | refine And.intro ?_ ?_ | ((conv => whnf); first | exact trivial | exact rfl | refine And.intro ?_ ?_ | omega))), ?_⟩
  conv => whnf
  refine call_step bst rfl rfl ?_
  conv => whnf
  refine ⟨(by repeat' (first | exact trivial | exact rfl | refine And.intro ?_ ?_ | ((conv => whnf); first | exact trivial | exact rfl | refine And.intro ?_ ?_ | omega))), (by repeat' (first | exact trivial | exact rfl | refine And.intro ?_ ?_ | ((conv => whnf); first | exact trivial | exact rfl | refine And.intro ?_ ?_ | omega))), ?_⟩
  conv => whnf
  refine ⟨fun hc => ?_, fun hc => ?_⟩
  · have hv1 : v1 ≤ 0 := of_decide_eq_true (show decide (v1 ≤ 0) = true from hc)
    rw [if_pos hv1] at hTx
    simp only [Option.some.injEq, Prod.mk.injEq] at hTx
    obtain ⟨rfl, rfl, rfl, rfl⟩ := hTx
    conv => whnf
    refine call_step (cloneInt_t x (by omega)) rfl rfl ?_
    conv => whnf
    refine ⟨(by repeat' (first | exact trivial | exact rfl | refine And.intro ?_ ?_ | ((conv => whnf); first | exact trivial | exact rfl | refine And.intro ?_ ?_ | omega))), (by repeat' (first | exact trivial | exact rfl | refine And.intro ?_ ?_ | ((conv => whnf); first | exact trivial | exact rfl | refine And.intro ?_ ?_ | omega))), ?_⟩
    conv => whnf
    repeat' (first | exact trivial | exact rfl | refine And.intro ?_ ?_ | ((conv => whnf); first | exact trivial | exact rfl | refine And.intro ?_ ?_ | omega))
  · have hv1 : ¬ v1 ≤ 0 := of_decide_eq_false (show decide (v1 ≤ 0) = false from hc)
    rw [if_neg hv1] at hTx
    conv => whnf
    refine ⟨(k, x'), ⟨hal, hTx⟩, by show k < k + 1; omega, ?_⟩
    conv => whnf
    refine ⟨rfl, ?_⟩
    conv => whnf
    repeat' (first | exact trivial | exact rfl | refine And.intro ?_ ?_ | ((conv => whnf); first | exact trivial | exact rfl | refine And.intro ?_ ?_ | omega))

end Go.Proofs

namespace Go.Proofs
open Go.Sx

theorem checkBest_zero {bs : List (Int × Int)} {ls : List Lnk} {form : List (Int × Int)} {v : Int} {us : List (Lnk × Int)} {pt : List Int} (hs : SysOK bs ls) (hf : formF form bs.length = 0) (ha : (allowsF bs ls pt).2 = true) (hv : valM form pt = v)
    (hsh : showsF (allF bs ls) bs.length (coefF 1 form (List.replicate bs.length 0)) us v = true) : checkBestF bs ls form v us pt = 0 := by
  unfold checkBestF
  rw [if_neg (by rw [checkF_ok.2 hs]; simp), if_neg (by rw [hf]; simp), if_neg (by rw [ha]; simp), if_neg (by simpa using hv), if_neg (by rw [hsh]; simp)]

end Go.Proofs

namespace Go.Proofs
open Go.Sx

def checkTopF (bs : List (Int × Int)) (ls : List Lnk) (num den : List (Int × Int)) (p q : Int) (us : List (Lnk × Int)) (pt : List Int) : Int :=
  if checkF bs ls ≠ 0 then checkF bs ls else if formsF bs num den ≠ 0 then formsF bs num den else
  if ¬ ((1 ≤ q ∧ q ≤ 134217728) ∧ (-134217728 ≤ p ∧ p ≤ 134217728) ∧ Int.gcd p q = 1) then 8 else if (allowsF bs ls pt).2 = false then 8 else
  if valM den pt ≤ 0 ∨ valM num pt * q ≠ valM den pt * p ∨ showsF (allF bs ls) bs.length (coefF (-p) den (coefF q num (List.replicate bs.length 0))) us 0 = false then 8 else 0

theorem refCheckTop_t (bs : List (Int × Int)) (ls : List Lnk) (num den : List (Int × Int)) (p q : Int) (us : List (Lnk × Int)) (pt : List Int) (hb : bs.length ≤ 240) (hl : ls.length ≤ 1000000) (hnl : num.length ≤ 1000) (hdl : den.length ≤ 1000) (hul : us.length ≤ 1000000) (hpl : pt.length ≤ 1000000) :
    Triple Try.prog 61 [sysA bs.length ls.length, .c (.s 2 0 num.length 2), .c (.s 3 0 den.length 2), .agg [.v (.int .i64 p), .v (.int .i64 q), .s 4 0 us.length 5, .s 5 0 pt.length 1]]
      ((2, false, .arr (aSpan num)) :: (3, false, .arr (aSpan den)) :: (4, false, .arr (aUse us)) :: (5, false, .arr (aInt pt)) :: sysH bs ls) 6 (iv .i64 (checkTopF bs ls num den p q us pt)) [] := by
  have hF : checkTopF bs ls num den p q us pt = if checkF bs ls ≠ 0 then checkF bs ls else if formsF bs num den ≠ 0 then formsF bs num den else
    if ¬ ((1 ≤ q ∧ q ≤ 134217728) ∧ (-134217728 ≤ p ∧ p ≤ 134217728) ∧ Int.gcd p q = 1) then 8 else if (allowsF bs ls pt).2 = false then 8 else
    if valM den pt ≤ 0 ∨ valM num pt * q ≠ valM den pt * p ∨ showsF (allF bs ls) bs.length (coefF (-p) den (coefF q num (List.replicate bs.length 0))) us 0 = false then 8 else 0 := rfl
  generalize checkTopF bs ls num den p q us pt = R at *
  have rfo := refForms_t bs ls num den hb hnl hdl
  refine triple_of tB_ok Try.func61 rfl Try.call61 rfl ?_
  intro ρ w hH
  conv => whnf
  refine call_step (refCheck_t bs ls (by omega) hl) rfl rfl ?_
  conv => whnf
  refine ⟨(by repeat' (first | exact trivial | exact rfl | refine And.intro ?_ ?_ | ((conv => whnf); first | exact trivial | exact rfl | refine And.intro ?_ ?_ | omega))), (by repeat' (first | exact trivial | exact rfl | refine And.intro ?_ ?_ | ((conv => whnf); first | exact trivial | exact rfl | refine And.intro ?_ ?_ | omega))), ?_⟩
  conv => whnf
  by_cases hck : checkF bs ls = 0
  · rw [if_neg (by simpa using hck)] at hF
    have hs := checkF_ok.1 hck
    have hnb := hs.nb
    have hnl2 := hs.nl
    rw [hck]
    refine ⟨fun hc => absurd hc (by simp), fun hc => ?_⟩
    conv => whnf
    refine call_step rfo rfl rfl ?_
    conv => whnf
    refine ⟨(by repeat' (first | exact trivial | exact rfl | refine And.intro ?_ ?_ | ((conv => whnf); first | exact trivial | exact rfl | refine And.intro ?_ ?_ | omega))), (by repeat' (first | exact trivial | exact rfl | refine And.intro ?_ ?_ | ((conv => whnf); first | exact trivial | exact rfl | refine And.intro ?_ ?_ | omega))), ?_⟩
    conv => whnf
    by_cases hfo : formsF bs num den = 0
    · rw [if_neg (by simpa using hfo)] at hF
      obtain ⟨fn, fd, pn, pd⟩ := formsF_ok hfo
      obtain ⟨n1, n2, n3⟩ := formF_ok fn
      obtain ⟨d1, d2, d3⟩ := formF_ok fd
      obtain ⟨pn1, pn2⟩ := partB_iff.1 pn
      obtain ⟨pd1, pd2⟩ := partB_iff.1 pd
      rw [hfo]
      refine ⟨fun hc => absurd hc (by simp), fun hc => ?_⟩
      conv => whnf
      refine ⟨fun hc => ?_, fun hc => ?_⟩
      · have hc : q < 1 := of_decide_eq_true (show decide (q < 1) = true from hc)
        rw [if_pos (by omega)] at hF
        rw [hF]
        conv => whnf
        repeat' (first | exact trivial | exact rfl | refine And.intro ?_ ?_ | ((conv => whnf); first | exact trivial | exact rfl | refine And.intro ?_ ?_ | omega))
      have c1 : ¬ q < 1 := of_decide_eq_false (show decide (q < 1) = false from hc)
      conv => whnf
      refine ⟨fun hc => ?_, fun hc => ?_⟩
      · have hc : 134217728 < q := of_decide_eq_true (show decide (134217728 < q) = true from hc)
        rw [if_pos (by omega)] at hF
        rw [hF]
        conv => whnf
        repeat' (first | exact trivial | exact rfl | refine And.intro ?_ ?_ | ((conv => whnf); first | exact trivial | exact rfl | refine And.intro ?_ ?_ | omega))
      have c2 : ¬ 134217728 < q := of_decide_eq_false (show decide (134217728 < q) = false from hc)
      conv => whnf
      refine ⟨fun hc => ?_, fun hc => ?_⟩
      · have hc : p < -134217728 := of_decide_eq_true (show decide (p < -134217728) = true from hc)
        rw [if_pos (by omega)] at hF
        rw [hF]
        conv => whnf
        repeat' (first | exact trivial | exact rfl | refine And.intro ?_ ?_ | ((conv => whnf); first | exact trivial | exact rfl | refine And.intro ?_ ?_ | omega))
      have c3 : ¬ p < -134217728 := of_decide_eq_false (show decide (p < -134217728) = false from hc)
      conv => whnf
      refine ⟨fun hc => ?_, fun hc => ?_⟩
      · have hc : 134217728 < p := of_decide_eq_true (show decide (134217728 < p) = true from hc)
        rw [if_pos (by omega)] at hF
        rw [hF]
        conv => whnf
        repeat' (first | exact trivial | exact rfl | refine And.intro ?_ ?_ | ((conv => whnf); first | exact trivial | exact rfl | refine And.intro ?_ ?_ | omega))
      have c4 : ¬ 134217728 < p := of_decide_eq_false (show decide (134217728 < p) = false from hc)
      have hgm : Int.gcd (max p (-p)) q = Int.gcd p q := by
        unfold Int.gcd
        congr 1
        omega
      have hgc := refGcd_t (max p (-p)) q (by omega) (by omega)
      rw [hgm] at hgc
      conv => whnf
      refine ⟨-p, (congrArg IntKind.i64.wrap (show (0 : Int) - p = -p by omega)).trans (wrapId ⟨by omega, by omega⟩), ?_⟩
      conv => whnf
      refine call_step hgc rfl rfl ?_
      conv => whnf
      refine ⟨(by repeat' (first | exact trivial | exact rfl | refine And.intro ?_ ?_ | ((conv => whnf); first | exact trivial | exact rfl | refine And.intro ?_ ?_ | omega))), (by repeat' (first | exact trivial | exact rfl | refine And.intro ?_ ?_ | ((conv => whnf); first | exact trivial | exact rfl | refine And.intro ?_ ?_ | omega))), ?_⟩
      conv => whnf
      refine ⟨fun hc => ?_, fun hc => ?_⟩
      · have hc : Int.gcd p q ≠ 1 := by
          have : ((Int.gcd p q : Nat) : Int) ≠ 1 := by simpa using (show (((Int.gcd p q : Nat) : Int) != 1) = true from hc)
          omega
        rw [if_pos (by omega)] at hF
        rw [hF]
        conv => whnf
        repeat' (first | exact trivial | exact rfl | refine And.intro ?_ ?_ | ((conv => whnf); first | exact trivial | exact rfl | refine And.intro ?_ ?_ | omega))
      have c5 : Int.gcd p q = 1 := by
        have : ((Int.gcd p q : Nat) : Int) = 1 := by simpa using (show (((Int.gcd p q : Nat) : Int) != 1) = false from hc)
        omega
      rw [if_neg (by omega)] at hF
      conv => whnf
      refine call_step (refAllows_t bs ls pt hs (by omega)) rfl rfl ?_
      conv => whnf
      refine ⟨(by repeat' (first | exact trivial | exact rfl | refine And.intro ?_ ?_ | ((conv => whnf); first | exact trivial | exact rfl | refine And.intro ?_ ?_ | omega))), (by repeat' (first | exact trivial | exact rfl | refine And.intro ?_ ?_ | ((conv => whnf); first | exact trivial | exact rfl | refine And.intro ?_ ?_ | omega))), ?_⟩
      conv => whnf
      refine ⟨fun hc => ?_, fun hc => ?_⟩
      · have ha : (allowsF bs ls pt).2 = false := by simpa using (show (!(allowsF bs ls pt).2) = true from hc)
        rw [if_pos ha] at hF
        rw [hF]
        conv => whnf
        repeat' (first | exact trivial | exact rfl | refine And.intro ?_ ?_ | ((conv => whnf); first | exact trivial | exact rfl | refine And.intro ?_ ?_ | omega))
      have ha : (allowsF bs ls pt).2 = true := by simpa using (show (!(allowsF bs ls pt).2) = false from hc)
      rw [if_neg (by rw [ha]; simp)] at hF
      obtain ⟨hptl, hptp⟩ := (allows_iff hs).1 ha
      have hptb := pot_bd hs hptl hptp
      have bn := part_bd hs ha (fun t ht => (n2 t ht).1) pn2
      have bd := part_bd hs ha (fun t ht => (d2 t ht).1) pd2
      have at1 := At_t num pt (by omega) (by rw [hptl]; exact n2) (fun x hx => by have := hptb x hx; omega)
      have at2 := At_t den pt (by omega) (by rw [hptl]; exact d2) (fun x hx => by have := hptb x hx; omega)
      have hm1 := mul_bd (x := valM num pt) (y := q) (C := 134217728) (D := 134217728) (by omega) (by omega)
      have hm2 := mul_bd (x := valM den pt) (y := p) (C := 134217728) (D := 134217728) (by omega) (by omega)
      conv => whnf
      refine call_step at1 rfl rfl ?_
      conv => whnf
      refine ⟨(by repeat' (first | exact trivial | exact rfl | refine And.intro ?_ ?_ | ((conv => whnf); first | exact trivial | exact rfl | refine And.intro ?_ ?_ | omega))), (by repeat' (first | exact trivial | exact rfl | refine And.intro ?_ ?_ | ((conv => whnf); first | exact trivial | exact rfl | refine And.intro ?_ ?_ | omega))), ?_⟩
      conv => whnf
      refine call_step at2 rfl rfl ?_
      conv => whnf
      refine ⟨(by repeat' (first | exact trivial | exact rfl | refine And.intro ?_ ?_ | ((conv => whnf); first | exact trivial | exact rfl | refine And.intro ?_ ?_ | omega))), (by repeat' (first | exact trivial | exact rfl | refine And.intro ?_ ?_ | ((conv => whnf); first | exact trivial | exact rfl | refine And.intro ?_ ?_ | omega))), ?_⟩
      conv => whnf
      refine call_step (refCoef2_t bs ls num den q p (by omega) (by omega) (by omega) (formB_of fn (by omega)) (formB_of fd (by omega))) rfl rfl ?_
      conv => whnf
      refine ⟨(by repeat' (first | exact trivial | exact rfl | refine And.intro ?_ ?_ | ((conv => whnf); first | exact trivial | exact rfl | refine And.intro ?_ ?_ | omega))), (by repeat' (first | exact trivial | exact rfl | refine And.intro ?_ ?_ | ((conv => whnf); first | exact trivial | exact rfl | refine And.intro ?_ ?_ | omega))), ?_⟩
      conv => whnf
      have hcl : (coefF (-p) den (coefF q num (List.replicate bs.length 0))).length = bs.length := by rw [coefF_len, coefF_len, List.length_replicate]
      generalize coefF (-p) den (coefF q num (List.replicate bs.length 0)) = cf at *
      refine call_step (shows_t bs ls cf us 0 hs hcl hul (by omega)) rfl rfl ?_
      conv => whnf
      refine ⟨(by repeat' (first | exact trivial | exact rfl | refine And.intro ?_ ?_ | ((conv => whnf); first | exact trivial | exact rfl | refine And.intro ?_ ?_ | omega))), (by repeat' (first | exact trivial | exact rfl | refine And.intro ?_ ?_ | ((conv => whnf); first | exact trivial | exact rfl | refine And.intro ?_ ?_ | omega))), ?_⟩
      conv => whnf
      generalize valM num pt = a at *
      generalize valM den pt = b at *
      refine ⟨fun hc => ?_, fun hc => ?_⟩
      · have hc : b ≤ 0 := of_decide_eq_true (show decide (b ≤ 0) = true from hc)
        rw [if_pos (.inl hc)] at hF
        rw [hF]
        conv => whnf
        repeat' (first | exact trivial | exact rfl | refine And.intro ?_ ?_ | ((conv => whnf); first | exact trivial | exact rfl | refine And.intro ?_ ?_ | omega))
      have c6 : ¬ b ≤ 0 := of_decide_eq_false (show decide (b ≤ 0) = false from hc)
      conv => whnf
      obtain ⟨aq, haq⟩ : ∃ z, z = a * q := ⟨_, rfl⟩
      obtain ⟨bp, hbp⟩ : ∃ z, z = b * p := ⟨_, rfl⟩
      rw [← haq] at hm1 hF
      rw [← hbp] at hm2 hF
      refine ⟨aq, (congrArg IntKind.i64.wrap haq.symm).trans (wrapId ⟨by omega, by omega⟩), ?_⟩
      conv => whnf
      refine ⟨bp, (congrArg IntKind.i64.wrap hbp.symm).trans (wrapId ⟨by omega, by omega⟩), ?_⟩
      conv => whnf
      refine ⟨fun hc => ?_, fun hc => ?_⟩
      · have hc : aq ≠ bp := by simpa using (show (aq != bp) = true from hc)
        rw [if_pos (.inr (.inl hc))] at hF
        rw [hF]
        conv => whnf
        repeat' (first | exact trivial | exact rfl | refine And.intro ?_ ?_ | ((conv => whnf); first | exact trivial | exact rfl | refine And.intro ?_ ?_ | omega))
      have c7 : aq = bp := by simpa using (show (aq != bp) = false from hc)
      conv => whnf
      refine ⟨fun hc => ?_, fun hc => ?_⟩
      · have hsh : showsF (allF bs ls) bs.length cf us 0 = false := by simpa using (show (!showsF (allF bs ls) bs.length cf us 0) = true from hc)
        rw [if_pos (.inr (.inr hsh))] at hF
        rw [hF]
        conv => whnf
        repeat' (first | exact trivial | exact rfl | refine And.intro ?_ ?_ | ((conv => whnf); first | exact trivial | exact rfl | refine And.intro ?_ ?_ | omega))
      · have hsh : showsF (allF bs ls) bs.length cf us 0 = true := by simpa using (show (!showsF (allF bs ls) bs.length cf us 0) = false from hc)
        rw [if_neg (by rw [hsh]; simp; omega)] at hF
        rw [hF]
        conv => whnf
        repeat' (first | exact trivial | exact rfl | refine And.intro ?_ ?_ | ((conv => whnf); first | exact trivial | exact rfl | refine And.intro ?_ ?_ | omega))
    · rw [if_pos (by simpa using hfo)] at hF
      rw [hF]
      generalize formsF bs num den = c at *
      refine ⟨fun hcc => ?_, fun hcc => ?_⟩
      · conv => whnf
        repeat' (first | exact trivial | exact rfl | refine And.intro ?_ ?_ | ((conv => whnf); first | exact trivial | exact rfl | refine And.intro ?_ ?_ | omega))
      · exact absurd (by simpa using hcc) hfo
  · rw [if_pos (by simpa using hck)] at hF
    rw [hF]
    generalize checkF bs ls = c at *
    refine ⟨fun hcc => ?_, fun hcc => ?_⟩
    · conv => whnf
      repeat' (first | exact trivial | exact rfl | refine And.intro ?_ ?_ | ((conv => whnf); first | exact trivial | exact rfl | refine And.intro ?_ ?_ | omega))
    · exact absurd (by simpa using hcc) hck

theorem checkTop_zero {bs : List (Int × Int)} {ls : List Lnk} {num den : List (Int × Int)} {p q : Int} {us : List (Lnk × Int)} {pt : List Int} (hs : SysOK bs ls) (hf : formsF bs num den = 0) (h : TopOK bs ls num den p q us pt) (hp : 1 ≤ valM den pt) : checkTopF bs ls num den p q us pt = 0 := by
  unfold checkTopF
  rw [if_neg (by rw [checkF_ok.2 hs]; simp), if_neg (by rw [hf]; simp), if_neg (fun hh => hh ⟨h.qb, h.pb, h.cop⟩), if_neg (by rw [h.al]; simp), if_neg]
  rintro (h1 | h1 | h1)
  · omega
  · exact h1 h.eq
  · rw [h.sh] at h1; cases h1

end Go.Proofs

namespace Go.Proofs
open Go.Sx

/-- What Top and Least are at two forms that make a quotient. -/
theorem top_cases {bs : List (Int × Int)} {ls : List Lnk} (h : NetW bs ls) {num den : List (Int × Int)} (hn : num.length ≤ 1000) (hd : den.length ≤ 1000) (hF : formsF bs num den = 0) :
    ∃ v us0 pt0, Triple Try.prog 29 [.c (.p 0 0 0 0), .c (.s 3 0 den.length 2)] ((3, false, .arr (aSpan den)) :: netH bs ls) 4
      (.tup [.inr [.v (.int .i64 (-v)), .s 4 0 us0.length 5, .s 5 0 pt0.length 1], .inl (.v (.int .i64 0))]) [(4, true, .arr (aUse us0)), (5, true, .arr (aInt pt0))] ∧
      (-1152921504606846976 ≤ v ∧ v ≤ 1152921504606846976) ∧ us0.length ≤ 2000 ∧ pt0.length = bs.length ∧ checkBestF bs ls (negL den) v us0 pt0 = 0 ∧ (allowsF bs ls pt0).2 = true ∧ -1 * valM den pt0 = v ∧
      (∀ pt, (allowsF bs ls pt).2 = true → -1 * valM den pt ≤ v) ∧
      ((0 ≤ v ∧ Triple Try.prog 59 [.c (.p 0 0 0 0), .c (.s 3 0 num.length 2), .c (.s 4 0 den.length 2)] ((3, false, .arr (aSpan num)) :: (4, false, .arr (aSpan den)) :: netH bs ls) 5
        (.tup [.inr [.v (.int .i64 0), .v (.int .i64 0), .v (.slice none 0 0), .v (.slice none 0 0)], .inl (.v (.int .i64 3))]) []) ∨
      (v < 0 ∧ ∃ p q us pt, Triple Try.prog 59 [.c (.p 0 0 0 0), .c (.s 3 0 num.length 2), .c (.s 4 0 den.length 2)] ((3, false, .arr (aSpan num)) :: (4, false, .arr (aSpan den)) :: netH bs ls) 5
        (.tup [.inr [.v (.int .i64 p), .v (.int .i64 q), .s 5 0 us.length 5, .s 6 0 pt.length 1], .inl (.v (.int .i64 0))]) [(5, true, .arr (aUse us)), (6, true, .arr (aInt pt))] ∧
        TopOK bs ls num den p q us pt ∧ pt.length = bs.length ∧ checkTopF bs ls num den p q us pt = 0)) := by
  obtain ⟨fn, fd, pn, pd⟩ := formsF_ok hF
  obtain ⟨f1, _, _⟩ := formF_ok fd
  obtain ⟨l2, b2, flow, pt0, v, hB2, hO2, hv2, hsh2, hal2, hval2, hul2, hm2⟩ := form_net h fd (p := -1) (.inr rfl)
  refine ⟨v, usesF (allF bs ls) flow, pt0, Least_t bs ls den 68719476737 v (usesF (allF bs ls) flow) pt0 _ h.sys (by omega) fd (formB_of fd (by omega)) rfl l2 (fun x hx => by have := b2 x hx; omega) hB2 (by omega), hv2, hul2, hO2.pl,
    checkBest_zero h.sys (formF_neg fd) hal2 (by rw [valM_neg]; omega) (by rw [coefF_neg]; exact hsh2), hal2, hval2, hm2, ?_⟩
  by_cases hv : 0 ≤ v
  · exact .inl ⟨hv, topRange_t bs ls num den h hn hd hF v flow pt0 l2 b2 hB2 hv⟩
  · have hpos : ∀ pt, (allowsF bs ls pt).2 = true → 1 ≤ valM den pt := fun pt hpt => by have := hm2 pt hpt; omega
    obtain ⟨p, q, us, pt, hT, hok⟩ := top_ok h hF hpos _ pt0 hal2 (Nat.lt_succ_self _)
    exact .inr ⟨by omega, p, q, us, pt, topYes_t bs ls num den h hn hd hF v flow pt0 l2 b2 hB2 (by omega) hal2 hpos _ p q us pt hT hok, hok, ((allows_iff h.sys).1 hok.al).1, checkTop_zero h.sys hF hok (hpos pt hok.al)⟩

end Go.Proofs

namespace Go.Proofs
open Go.Sx

theorem holds_pot {bs : List (Int × Int)} {ls : List Lnk} {pt : List Int} (hs : SysOK bs ls) (hl : pt.length = bs.length) : (∀ l ∈ allF bs ls, holdsF pt l = true) ↔ PotL bs.length (fun v => pt.getD v 0) (allF bs ls) := by
  have hok := allF_ok hs
  refine forall_congr' fun l => forall_congr' fun hm => ?_
  obtain ⟨_, h1, h2⟩ := hok l hm
  show decide (atF pt l.t - atF pt l.f ≤ l.m) = true ↔ pt.getD (plc bs.length l.t) 0 ≤ pt.getD (plc bs.length l.f) 0 + l.m
  rw [plc_at hl (by omega), plc_at hl (by omega), decide_eq_true_eq]
  omega

/-- The first link that does not hold: there is none exactly if the reference allows the point. -/
theorem broken_allows {bs : List (Int × Int)} {ls : List Lnk} {pt : List Int} (hs : SysOK bs ls) : (brokenF bs ls pt).2 = !(allowsF bs ls pt).2 := by
  by_cases hl : pt.length = bs.length
  · by_cases ha : ∀ l ∈ allF bs ls, holdsF pt l = true
    · rw [broken_none hl ha, (allows_iff hs).2 ⟨hl, (holds_pot hs hl).1 ha⟩]; rfl
    · have h1 : ¬ (allowsF bs ls pt).2 = true := fun h => ha ((holds_pot hs hl).2 ((allows_iff hs).1 h).2)
      have h2 : (allowsF bs ls pt).2 = false := by simpa using h1
      rw [h2, brokenF, if_pos hl]
      cases hf : (allF bs ls).find? (fun l => !holdsF pt l) with
      | none => exact absurd (fun l hm => by simpa using List.find?_eq_none.1 hf l hm) ha
      | some l => rfl
  · rw [brokenF, if_neg hl, allowsF, if_neg hl]; rfl

end Go.Proofs

namespace Go
namespace Sx

end Sx
end Go

namespace Go.Proofs
open Go.Sx

end Go.Proofs

namespace Go
namespace Sx

theorem ownB_nil {ρ : Asg} {k : Nat} {r : Rg} {o : SO} : ∀ {H : Heap}, (∀ j ∈ keys H, j < k) → ownB (upd ρ k r) (H ++ [(k, false, o)]) = ownB ρ H
  | [], _ => by simp [ownB]
  | (j, own, q) :: t, h => by
    have hj : j ≠ k := Nat.ne_of_lt (h j (by simp [keys]))
    simp only [List.cons_append, ownB, upd_ne hj]
    rw [ownB_nil (H := t) (fun i hi => h i (by simp [keys, hi]))]

theorem satH_nil {w0 : World} {M : List Nat} {ρ : Asg} {k : Nat} {o : SO} {H : Heap} {w : World} (ho : nilO o) (hk : ∀ j ∈ nmsH H, j < k) (h : SatH w0 M ρ H w) :
    SatH w0 M (upd ρ k ⟨0, 0, 0⟩) (H ++ [(k, false, o)]) w := by
  have hold : ∀ {j own q}, look H j = some (own, q) → j ≠ k ∧ ∀ i, q.uses [i] = true → upd ρ k ⟨0, 0, 0⟩ i = ρ i := fun {j own q} hl => by
    have hn := look_nms hl
    exact ⟨Nat.ne_of_lt (hk j hn.1), fun i hi => upd_ne (Nat.ne_of_lt (hk i (hn.2 i (SO.uses_nms.1 hi))))⟩
  have hnil := satO_nil (ρ := upd ρ k ⟨0, 0, 0⟩) (w := w) (k := k) (own := false) ho upd_eq
  have key : ∀ {j own q}, look (H ++ [(k, false, o)]) j = some (own, q) → (look H j = some (own, q)) ∨ (j = k ∧ own = false ∧ q = o) := fun {j own q} hl => by
    rw [look_append] at hl
    cases hh : look H j with
    | some x => rw [hh] at hl; exact .inl hl
    | none =>
      rw [hh] at hl
      simp only [Option.none_or] at hl
      rw [look_cons] at hl
      by_cases hj : j = k
      · rw [if_pos hj] at hl; cases hl; exact .inr ⟨hj, rfl, rfl⟩
      · rw [if_neg hj] at hl; cases hl
  refine ⟨h.frm, ?_, ?_, ?_, ?_⟩
  · intro j own q hl
    rcases key hl with hl | ⟨rfl, rfl, rfl⟩
    · obtain ⟨h1, h2⟩ := hold hl
      exact (h.reg j own q hl).asg (upd_ne h1) h2
    · exact hnil.1
  · intro j j' q own' q' hne hl hl' hr hr'
    rcases key hl with hl | ⟨_, hf, _⟩
    · rcases key hl' with hl' | ⟨rfl, rfl, rfl⟩
      · have h1 := (hold hl).1
        have h2 := (hold hl').1
        rw [upd_ne h1] at hr ⊢
        rw [upd_ne h2] at hr' ⊢
        exact h.apart j j' q own' q' hne hl hl' hr hr'
      · rw [hnil.2] at hr'; omega
    · cases hf
  · intro j q hl hr
    rcases key hl with hl | ⟨_, hf, _⟩
    · rw [upd_ne (hold hl).1] at hr ⊢
      exact h.fresh j q hl hr
    · cases hf
  · intro j own q hl hr
    rcases key hl with hl | ⟨rfl, rfl, rfl⟩
    · rw [upd_ne (hold hl).1] at hr ⊢
      exact h.valid j own q hl hr
    · rw [hnil.2] at hr; omega

/-- A contract for a list that is empty serves for nil. -/
theorem Triple.nilK {P : Program} {f : FuncId} {args args' : List SV} {k : Nat} {o : SO} {H : Heap} {np : Nat} {r : SV} {post : Heap} (h : Triple P f args (H ++ [(k, false, o)]) np r post) (ho : nilO o) (hnp : np = k + 1)
    (hk : allLt k (nmsH H) = true) (hargs : ∀ ρ vals, relVs ρ args' vals → relVs (upd ρ k ⟨0, 0, 0⟩) args vals) : Triple P f args' H k r post where
  enter := h.enter
  h ρ w vals hv hH := by
    have hk := allLt_iff.1 hk
    have hkeys : ∀ j ∈ keys H, j < k := fun j hj => by
      obtain ⟨x, hx⟩ := look_of_keys hj
      exact hk j (look_nms hx).1
    have e := ownB_nil (ρ := ρ) (r := ⟨0, 0, 0⟩) (o := o) hkeys
    have hH1 : SatH w (ownB (upd ρ k ⟨0, 0, 0⟩) (H ++ [(k, false, o)])) (upd ρ k ⟨0, 0, 0⟩) (H ++ [(k, false, o)]) w := by
      rw [e]; exact satH_nil ho hk hH
    refine (h.h _ w vals (hargs ρ _ hv) hH1).mono ?_
    rintro en w' ⟨ρ', v, h1, h2, h3, h4⟩
    rw [e] at h4
    exact ⟨ρ', v, fun j hj => by rw [h1 j (by omega), upd_ne (by omega)], h2, h3, h4⟩

end Sx
end Go

namespace Go.Proofs
open Go.Sx

/-! ### Two nets with the same links -/

end Go.Proofs

namespace Go.Proofs
open Go.Sx

end Go.Proofs

namespace Go
namespace Proofs

/-! ### All points of small boxes, one after another -/

/-! ### What is seen -/

end Proofs
end Go

namespace Go.Proofs
open Go.Sx

end Go.Proofs

namespace Go.Proofs
open Go.Sx

end Go.Proofs

namespace Go.Proofs
open Go.Sx

end Go.Proofs

namespace Go.Proofs
open Go.Sx

end Go.Proofs

namespace Go.Proofs
open Go.Sx

end Go.Proofs

namespace Go
namespace Sx

/-! ### A list of records with lists inside: what lies in the initial world is looked at within a round -/

end Sx
end Go

namespace Go.Proofs
open Go.Sx

/-! ### Steps -/

structure Stp where
  tk : Bool
  id : Int
  a : Option Addr
  n : Nat
  c : Nat
  L : List Lnk

end Go.Proofs

namespace Go.Proofs
open Go.Sx

end Go.Proofs

