/-
  A part of the proof that a law of dryweightlaw03 answers true: lemmas of a symbolic walk, plain functions, or contracts of the functions walked (Xb, Xc, Pm13, Pm14, Pm15, Xj, Xk, Pm16, Xl, Xm, Xn, Xo, Xp, Xr, Pm17, Xs, Sx32, Sx33, Xe, Xf, Xg, Xh). Conditions: none.
-/
import Derived.Test.YtjjfadfmdodmnaaPart17
import Derived.Test.YtjjfadfmdodmnaaPart14
import Derived.Test.YtjjfadfmdodmnaaPart16
import Derived.Test.YtjjfadfmdodmnaaPart07
import Derived.Lib.AppendZeros
set_option maxRecDepth 100000
set_option linter.unusedVariables false
set_option linter.unusedSimpArgs false
namespace Go.Proofs
open Go.Sx

def headI (cyc : List Lnk) : Int := (cyc.getD 0 ⟨0, 0, 0, 0⟩).f

def checkCycF (bs : List (Int × Int)) (ls cyc : List Lnk) : Int :=
  if checkF bs ls ≠ 0 then checkF bs ls else if 2000 < cyc.length then 2 else if cyc.length = 0 then 8 else
  if (chainR (allF bs ls) cyc (headI cyc) (headI cyc)).2 = false ∨ 0 ≤ (chainR (allF bs ls) cyc (headI cyc) (headI cyc)).1 then 8 else 0

theorem refCheckCycle_t (bs : List (Int × Int)) (ls cyc : List Lnk) (hb : bs.length ≤ 1000000) (hl : ls.length ≤ 1000000) (hcl : cyc.length ≤ 1000000) :
    Triple Try.prog 42 [sysA bs.length ls.length, .c (.s 2 0 cyc.length 4)] ((2, false, .arr (aLink cyc)) :: sysH bs ls) 3 (iv .i64 (checkCycF bs ls cyc)) [] := by
  have hF : checkCycF bs ls cyc = if checkF bs ls ≠ 0 then checkF bs ls else if 2000 < cyc.length then 2 else if cyc.length = 0 then 8 else
    if (chainR (allF bs ls) cyc (headI cyc) (headI cyc)).2 = false ∨ 0 ≤ (chainR (allF bs ls) cyc (headI cyc) (headI cyc)).1 then 8 else 0 := rfl
  generalize checkCycF bs ls cyc = R at *
  refine triple_of tB_ok Try.func42 rfl Try.call42 rfl ?_
  intro ρ w hH
  conv => whnf
  refine call_step (refCheck_t bs ls hb hl) rfl rfl ?_
  conv => whnf
  refine ⟨(by repeat' (first | exact trivial | exact rfl | refine And.intro ?_ ?_ | ((conv => whnf); first | exact trivial | exact rfl | refine And.intro ?_ ?_ | omega))), (by repeat' (first | exact trivial | exact rfl | refine And.intro ?_ ?_ | ((conv => whnf); first | exact trivial | exact rfl | refine And.intro ?_ ?_ | omega))), ?_⟩
  conv => whnf
  by_cases hck : checkF bs ls = 0
  · rw [if_neg (by simpa using hck)] at hF
    have hs := checkF_ok.1 hck
    rw [hck]
    refine ⟨fun hc => absurd hc (by simp), fun hc => ?_⟩
    conv => whnf
    refine ⟨fun hc => ?_, fun hc => ?_⟩
    · have h3 : 2000 < cyc.length := by have := of_decide_eq_true (show decide ((2000 : Int) < cyc.length) = true from hc); omega
      rw [if_pos h3] at hF
      rw [hF]
      conv => whnf
      repeat' (first | exact trivial | exact rfl | refine And.intro ?_ ?_ | ((conv => whnf); first | exact trivial | exact rfl | refine And.intro ?_ ?_ | omega))
    have h3 : ¬ 2000 < cyc.length := by have := of_decide_eq_false (show decide ((2000 : Int) < cyc.length) = false from hc); omega
    rw [if_neg h3] at hF
    conv => whnf
    refine ⟨fun hc => ?_, fun hc => ?_⟩
    · have h4 : cyc.length = 0 := by have := (by simpa using (show ((cyc.length : Int) == 0) = true from hc) : (cyc.length : Int) = 0 ∨ cyc = []); rcases this with h | h <;> simp_all
      rw [if_pos h4] at hF
      rw [hF]
      conv => whnf
      repeat' (first | exact trivial | exact rfl | refine And.intro ?_ ?_ | ((conv => whnf); first | exact trivial | exact rfl | refine And.intro ?_ ?_ | omega))
    have h4 : 0 < cyc.length := by
      rcases Nat.eq_zero_or_pos cyc.length with h | h
      · rw [h] at hc; exact absurd hc (by simp)
      · exact h
    rw [if_neg (by omega)] at hF
    have h0 : cyc[0].f = headI cyc := by
      unfold headI
      rw [List.getD_eq_getElem?_getD, List.getElem?_eq_getElem h4]; rfl
    have hch := chained_t bs ls cyc (headI cyc) (headI cyc) hs (by omega)
    rw [← h0] at hch hF
    conv => whnf
    refine ⟨0, rfl, by omega, h4, ?_⟩
    conv => whnf
    refine ⟨0, rfl, by omega, h4, ?_⟩
    conv => whnf
    refine call_step hch rfl rfl ?_
    conv => whnf
    refine ⟨(by repeat' (first | exact trivial | exact rfl | refine And.intro ?_ ?_ | ((conv => whnf); first | exact trivial | exact rfl | refine And.intro ?_ ?_ | omega))), (by repeat' (first | exact trivial | exact rfl | refine And.intro ?_ ?_ | ((conv => whnf); first | exact trivial | exact rfl | refine And.intro ?_ ?_ | omega))), ?_⟩
    conv => whnf
    generalize chainR (allF bs ls) cyc cyc[0].f cyc[0].f = X at *
    obtain ⟨X1, X2⟩ := X
    refine ⟨fun hc => ?_, fun hc => ?_⟩
    · have h5 : X2 = false := by simpa using (show (!X2) = true from hc)
      rw [if_pos (.inl h5)] at hF
      rw [hF]
      conv => whnf
      repeat' (first | exact trivial | exact rfl | refine And.intro ?_ ?_ | ((conv => whnf); first | exact trivial | exact rfl | refine And.intro ?_ ?_ | omega))
    have h5 : X2 = true := by simpa using (show (!X2) = false from hc)
    conv => whnf
    refine ⟨fun hc => ?_, fun hc => ?_⟩
    · have h6 : 0 ≤ X1 := of_decide_eq_true (show decide (0 ≤ X1) = true from hc)
      rw [if_pos (.inr h6)] at hF
      rw [hF]
      conv => whnf
      repeat' (first | exact trivial | exact rfl | refine And.intro ?_ ?_ | ((conv => whnf); first | exact trivial | exact rfl | refine And.intro ?_ ?_ | omega))
    · have h6 : ¬ 0 ≤ X1 := of_decide_eq_false (show decide (0 ≤ X1) = false from hc)
      rw [if_neg (by simp only [h5]; rintro (h | h); cases h; exact h6 h)] at hF
      rw [hF]
      conv => whnf
      repeat' (first | exact trivial | exact rfl | refine And.intro ?_ ?_ | ((conv => whnf); first | exact trivial | exact rfl | refine And.intro ?_ ?_ | omega))
  · rw [if_pos (by simpa using hck)] at hF
    rw [hF]
    generalize checkF bs ls = c at *
    refine ⟨fun hcc => ?_, fun hcc => ?_⟩
    · conv => whnf
      repeat' (first | exact trivial | exact rfl | refine And.intro ?_ ?_ | ((conv => whnf); first | exact trivial | exact rfl | refine And.intro ?_ ?_ | omega))
    · exact absurd (by simpa using hcc) hck

theorem cycle_t (n : Nat) (arcs : List Lnk) (T : Tr) (v : Nat) (P kk : Nat → Nat) (M : Nat) (hn : n ≤ 1000) (ha : arcs.length ≤ 10000) (hl1 : T.sum.length = n + 1) (hl2 : T.there.length = n + 1) (hl3 : T.last.length = n + 1) (h : Cyc n arcs T v P kk M) :
    Triple Try.prog 136 [.c (.p 0 0 0 0), .agg [.s 2 0 (n + 1) 1, .s 3 0 (n + 1) 1, .s 4 0 (n + 1) 1], iv .i64 v]
      [(0, false, .cells [.v (.int .i64 n), .s 1 0 arcs.length 4]), (1, false, .arr (aLink arcs)), (2, false, .arr (aInt T.sum)), (3, false, .arr (aBool T.there)), (4, false, .arr (aInt T.last))] 5
      (.c (.s 5 0 (cycL n arcs kk M).reverse.length 4)) [(5, true, .arr (aLink (cycL n arcs kk M).reverse))] := by
  have hM := h.len
  have hM1 := h.pos
  have bef : ∀ m, Triple Try.prog 105 [.c (.p 0 0 0 0), .agg [.s 2 0 (n + 1) 1, .s 3 0 (n + 1) 1, .s 4 0 (n + 1) 1], iv .i64 (P m)]
      [(0, false, .cells [.v (.int .i64 n), .s 1 0 arcs.length 4]), (1, false, .arr (aLink arcs)), (2, false, .arr (aInt T.sum)), (3, false, .arr (aBool T.there)), (4, false, .arr (aInt T.last))] 5 (iv .i64 (P (m + 1))) [] := fun m =>
    before_t n arcs T.last (P m) (kk m) (P (m + 1)) T.sum T.there (n + 1) hn hl3 (h.lst m) (by have := befF_lt (h.bef m); omega) (h.bef m)
  have hP0 := h.start
  subst hP0
  refine triple_of tB_ok Try.func136 rfl Try.call136 rfl ?_
  intro ρ w hH
  conv => whnf
  refine ⟨(n : Int) + 1, wrapId (z := (n : Int) + 1) ⟨by omega, by omega⟩, ?_⟩
  conv => whnf
  refine loop_step tB_ok (G := Nat) 0 [] (fun m => [(14, iv .i64 m), (2, iv .i64 (P m))]) (fun _ => []) (fun m => m ≤ n + 1) (fun m => n + 1 - m) ?_
  conv => whnf
  refine ⟨⟨0, Nat.zero_le _, ?_⟩, ?_⟩
  · conv => whnf
    repeat' (first | exact trivial | exact rfl | refine And.intro ?_ ?_ | ((conv => whnf); first | exact trivial | exact rfl | refine And.intro ?_ ?_ | omega))
  intro m hm ρ1 t1 hρ1
  conv => whnf
  refine ⟨fun hc => ?_, fun hc => ?_⟩
  · have hlt : m < n + 1 := by have := of_decide_eq_true (show decide ((m : Int) < (n : Int) + 1) = true from hc); omega
    conv => whnf
    refine call_step (bef m) rfl rfl ?_
    conv => whnf
    refine ⟨(by repeat' (first | exact trivial | exact rfl | refine And.intro ?_ ?_ | ((conv => whnf); first | exact trivial | exact rfl | refine And.intro ?_ ?_ | omega))), (by repeat' (first | exact trivial | exact rfl | refine And.intro ?_ ?_ | ((conv => whnf); first | exact trivial | exact rfl | refine And.intro ?_ ?_ | omega))), ?_⟩
    conv => whnf
    refine ⟨(m : Int) + 1, wrapId (z := (m : Int) + 1) ⟨by omega, by omega⟩, ?_⟩
    refine ⟨m + 1, hlt, by show n + 1 - (m + 1) < n + 1 - m; omega, ?_⟩
    conv => whnf
    refine ⟨rfl, ?_⟩
    conv => whnf
    repeat' (first | exact trivial | exact rfl | refine And.intro ?_ ?_ | ((conv => whnf); first | exact trivial | exact rfl | refine And.intro ?_ ?_ | omega))
  have hme : m = n + 1 := by have := of_decide_eq_false (show decide ((m : Int) < (n : Int) + 1) = false from hc); omega
  subst hme
  conv => whnf
  refine loop_step tB_ok (G := Nat × List Lnk) 1 [] (fun g => [(8, iv .i64 (P (n + 1 + g.1))), (7, .c (.s 6 0 g.2.length 4))]) (fun g => [(6, true, .arr (aLink g.2))]) (fun g => g.1 < M ∧ g.2 = cycL n arcs kk g.1) (fun g => M - g.1) ?_
  conv => whnf
  refine ⟨⟨(0, []), ⟨hM1, rfl⟩, ?_⟩, ?_⟩
  · conv => whnf
    repeat' (first | exact trivial | exact rfl | refine And.intro ?_ ?_ | ((conv => whnf); first | exact trivial | exact rfl | refine And.intro ?_ ?_ | omega))
  rintro ⟨i, out⟩ ⟨hi, hout⟩ ρ2 t2 hρ2
  have hi : i < M := hi
  have hout : out = cycL n arcs kk i := hout
  have hol : out.length = i := by rw [hout]; simp [cycL]
  dsimp only
  have hle := h.le (n + 1 + i)
  have hla := h.lst (n + 1 + i)
  have hbe := bef (n + 1 + i)
  have hkl := befF_lt (h.bef (n + 1 + i))
  obtain ⟨hpl, hpe⟩ := List.getElem?_eq_some_iff.1 hla
  have hdiv : IntKind.i64.wrap (Int.tdiv T.last[P (n + 1 + i)] 2) = ((kk (n + 1 + i) / 2 : Nat) : Int) := by rw [hpe]; exact wrapId (z := ((kk (n + 1 + i) / 2 : Nat) : Int)) ⟨by omega, by omega⟩
  have hst := cycL_succ n arcs kk i
  rw [← hout, List.getD_eq_getElem?_getD, List.getElem?_eq_getElem hkl, Option.getD_some] at hst
  have hper := h.per
  have hlow := h.low (i + 1) (by omega)
  have hnext : P (n + 1 + i + 1) = P (n + 1 + (i + 1)) := rfl
  have hfin : i + 1 = M → cycL n arcs kk M = cycL n arcs kk (i + 1) := fun he => by rw [he]
  obtain ⟨j, hj⟩ : ∃ j, j = kk (n + 1 + i) / 2 := ⟨_, rfl⟩
  simp only [← hj] at hdiv hkl hst
  clear hla
  conv => whnf
  refine ⟨P (n + 1 + i), rfl, by omega, hpl, ?_⟩
  conv => whnf
  refine ⟨by decide, (j : Int), hdiv, ?_⟩
  conv => whnf
  refine ⟨j, rfl, hkl, hkl, ?_⟩
  conv => whnf
  refine bs_step tB_ok (aLink [arcs[j]]) rfl rfl ?_
  conv => whnf
  refine ⟨⟨rfl, ⟨rfl, rfl, rfl, rfl, trivial⟩⟩, ?_⟩
  conv => whnf
  refine app_step tB_ok (aLink out) [arcs[j]] (fun _ => rfl) rfl rfl rfl rfl ?_
  conv => whnf
  refine ⟨⟨rfl, rfl, Nat.le_refl _, Nat.le_refl _, by show (out.length + 1) * 33 ≤ _; omega⟩, ?_⟩
  conv => whnf
  refine call_step hbe rfl rfl ?_
  conv => whnf
  refine ⟨(by repeat' (first | exact trivial | exact rfl | refine And.intro ?_ ?_ | ((conv => whnf); first | exact trivial | exact rfl | refine And.intro ?_ ?_ | omega))), (by repeat' (first | exact trivial | exact rfl | refine And.intro ?_ ?_ | ((conv => whnf); first | exact trivial | exact rfl | refine And.intro ?_ ?_ | omega))), ?_⟩
  conv => whnf
  refine ⟨fun hc => ?_, fun hc => ?_⟩
  · have he : P (n + 1 + i + 1) = P (n + 1) := by
      have := (show ((P (n + 1 + i + 1) : Int) == ((P (n + 1) : Nat) : Int)) = true from hc)
      simp at this; omega
    have hie : i + 1 = M := by
      rcases Nat.lt_or_ge (i + 1) M with hlt | hge
      · exact absurd he (hlow hlt)
      · omega
    have hfin := hfin hie
    rw [hst] at hfin
    have hrv : Triple Try.prog 106 [.c (.s 0 0 (out.length + 1) 4)] [(0, true, .arr (aLink (List.take out.length out ++ List.take 1 (List.drop 0 [arcs[j]]))))] 1 (.tup []) [(0, true, .arr (aLink (out ++ [arcs[j]]).reverse))] := by
      have h1 : (out ++ [arcs[j]]).length = out.length + 1 := by simp
      have := reverse_t (out ++ [arcs[j]]) (by omega)
      rw [app1]
      rwa [h1] at this
    conv => whnf
    rw [hfin]
    refine call_step hrv rfl rfl ?_
    conv => whnf
    refine ⟨(by repeat' (first | exact trivial | exact rfl | refine And.intro ?_ ?_ | ((conv => whnf); first | exact trivial | exact rfl | refine And.intro ?_ ?_ | omega))), (by repeat' (first | exact trivial | exact rfl | refine And.intro ?_ ?_ | ((conv => whnf); first | exact trivial | exact rfl | refine And.intro ?_ ?_ | omega))), ?_⟩
    conv => whnf
    repeat' (first | exact trivial | exact rfl | refine And.intro ?_ ?_ | ((conv => whnf); first | exact trivial | exact rfl | refine And.intro ?_ ?_ | omega))
    all_goals simp
  · have he : P (n + 1 + i + 1) ≠ P (n + 1) := by
      have := (show ((P (n + 1 + i + 1) : Int) == ((P (n + 1) : Nat) : Int)) = false from hc)
      simp at this; omega
    have hlt : i + 1 < M := by
      rcases Nat.lt_or_ge (i + 1) M with hlt | hge
      · exact hlt
      · exfalso
        have : i + 1 = M := by omega
        rw [hnext, this] at he
        exact he hper
    conv => whnf
    refine ⟨(i + 1, out ++ [arcs[j]]), ⟨hlt, hst.symm⟩, by show M - (i + 1) < M - i; omega, ?_⟩
    conv => whnf
    refine ⟨rfl, ?_⟩
    conv => whnf
    repeat' (first | exact trivial | exact rfl | refine And.intro ?_ ?_ | ((conv => whnf); first | exact trivial | exact rfl | refine And.intro ?_ ?_ | omega))
    all_goals first | exact (congrArg aLink app1 : _) | simp

theorem clash_t (n : Nat) (arcs : List Lnk) (v : Nat) (P kk : Nat → Nat) (M : Nat) (hn : n ≤ 1000) (hl : arcs.length ≤ 10000) (hok : ∀ l ∈ arcs, ArcOK n l) (hch : (shortF n noRev arcs n).2 = ((v : Nat) : Int)) (h : Cyc n arcs (shortF n noRev arcs n).1 v P kk M) :
    Triple Try.prog 96 [.c (.p 0 0 0 0)] (graphH n arcs) 2 (.tup [.inl (.s 2 0 (cycL n arcs kk M).reverse.length 4), .inl (.b true)]) [(2, true, .arr (aLink (cycL n arcs kk M).reverse))] := by
  have hlen := shortF_len n noRev arcs n hok
  obtain ⟨hl1, hl2, hl3⟩ := hlen
  refine triple_of tB_ok Try.func96 rfl Try.call96 rfl ?_
  intro ρ w hH
  conv => whnf
  refine call_step (plain_t n arcs n hn hl hok (Nat.le_refl _)) rfl rfl ?_
  conv => whnf
  refine ⟨(by repeat' (first | exact trivial | exact rfl | refine And.intro ?_ ?_ | ((conv => whnf); first | exact trivial | exact rfl | refine And.intro ?_ ?_ | omega))), (by repeat' (first | exact trivial | exact rfl | refine And.intro ?_ ?_ | ((conv => whnf); first | exact trivial | exact rfl | refine And.intro ?_ ?_ | omega))), ?_⟩
  conv => whnf
  rw [hch]
  generalize (shortF n noRev arcs n).1 = T at *
  refine ⟨fun hc => ?_, fun hc => ?_⟩
  · have := (show ((v : Int) == -1) = true from hc)
    simp at this
  conv => whnf
  refine call_step (cycle_t n arcs T v P kk M hn hl hl1 hl2 hl3 h) rfl rfl ?_
  conv => whnf
  refine ⟨(by repeat' (first | exact trivial | exact rfl | refine And.intro ?_ ?_ | ((conv => whnf); first | exact trivial | exact rfl | refine And.intro ?_ ?_ | omega))), (by repeat' (first | exact trivial | exact rfl | refine And.intro ?_ ?_ | ((conv => whnf); first | exact trivial | exact rfl | refine And.intro ?_ ?_ | omega))), ?_⟩
  conv => whnf
  repeat' (first | exact trivial | exact rfl | refine And.intro ?_ ?_ | ((conv => whnf); first | exact trivial | exact rfl | refine And.intro ?_ ?_ | omega))

theorem conflictYes_t (bs : List (Int × Int)) (ls : List Lnk) (v : Nat) (P kk : Nat → Nat) (M : Nat) (hs : SysOK bs ls) (hch : (shortF bs.length noRev (graphF bs ls 0) bs.length).2 = ((v : Nat) : Int)) (h : Cyc bs.length (graphF bs ls 0) (shortF bs.length noRev (graphF bs ls 0) bs.length).1 v P kk M) :
    Triple Try.prog 36 [sysA bs.length ls.length] (sysH bs ls) 2 (.tup [.inl (.s 2 0 (cycL bs.length (graphF bs ls 0) kk M).reverse.length 4), .inl (.b true), .inl (.v (.int .i64 0))]) [(2, true, .arr (aLink (cycL bs.length (graphF bs ls 0) kk M).reverse))] := by
  have hnb := hs.nb
  have hnl := hs.nl
  have hgl := graphF_len hs 0
  refine triple_of tB_ok Try.func36 rfl Try.call36 rfl ?_
  intro ρ w hH
  conv => whnf
  refine call_step (check_t bs ls (by omega) (by omega)) rfl rfl ?_
  conv => whnf
  refine ⟨(by repeat' (first | exact trivial | exact rfl | refine And.intro ?_ ?_ | ((conv => whnf); first | exact trivial | exact rfl | refine And.intro ?_ ?_ | omega))), (by repeat' (first | exact trivial | exact rfl | refine And.intro ?_ ?_ | ((conv => whnf); first | exact trivial | exact rfl | refine And.intro ?_ ?_ | omega))), ?_⟩
  conv => whnf
  rw [checkF_ok.2 hs]
  refine ⟨fun hc => absurd hc (by simp), fun hc => ?_⟩
  conv => whnf
  refine call_step (graphOf_t bs ls 0 (by omega) hs.boxB (by omega)) rfl rfl ?_
  conv => whnf
  refine ⟨(by repeat' (first | exact trivial | exact rfl | refine And.intro ?_ ?_ | ((conv => whnf); first | exact trivial | exact rfl | refine And.intro ?_ ?_ | omega))), (by repeat' (first | exact trivial | exact rfl | refine And.intro ?_ ?_ | ((conv => whnf); first | exact trivial | exact rfl | refine And.intro ?_ ?_ | omega))), ?_⟩
  conv => whnf
  refine call_step (clash_t bs.length (graphF bs ls 0) v P kk M (by omega) (by omega) (graphF_ok hs 0) hch h) rfl rfl ?_
  conv => whnf
  refine ⟨(by repeat' (first | exact trivial | exact rfl | refine And.intro ?_ ?_ | ((conv => whnf); first | exact trivial | exact rfl | refine And.intro ?_ ?_ | omega))), (by repeat' (first | exact trivial | exact rfl | refine And.intro ?_ ?_ | ((conv => whnf); first | exact trivial | exact rfl | refine And.intro ?_ ?_ | omega))), ?_⟩
  conv => whnf
  repeat' (first | exact trivial | exact rfl | refine And.intro ?_ ?_ | ((conv => whnf); first | exact trivial | exact rfl | refine And.intro ?_ ?_ | omega))

theorem conflictErr_t (bs : List (Int × Int)) (ls : List Lnk) (hb : bs.length ≤ 1000000) (hl : ls.length ≤ 1000000) (hc : checkF bs ls ≠ 0) :
    Triple Try.prog 36 [sysA bs.length ls.length] (sysH bs ls) 2 (.tup [.inl (.v (.slice none 0 0)), .inl (.b false), .inl (.v (.int .i64 (checkF bs ls)))]) [] := by
  refine triple_of tB_ok Try.func36 rfl Try.call36 rfl ?_
  intro ρ w hH
  conv => whnf
  refine call_step (check_t bs ls hb hl) rfl rfl ?_
  conv => whnf
  refine ⟨(by repeat' (first | exact trivial | exact rfl | refine And.intro ?_ ?_ | ((conv => whnf); first | exact trivial | exact rfl | refine And.intro ?_ ?_ | omega))), (by repeat' (first | exact trivial | exact rfl | refine And.intro ?_ ?_ | ((conv => whnf); first | exact trivial | exact rfl | refine And.intro ?_ ?_ | omega))), ?_⟩
  conv => whnf
  generalize checkF bs ls = c at *
  refine ⟨fun hcc => ?_, fun hcc => ?_⟩
  · conv => whnf
    repeat' (first | exact trivial | exact rfl | refine And.intro ?_ ?_ | ((conv => whnf); first | exact trivial | exact rfl | refine And.intro ?_ ?_ | omega))
  · exact absurd (by simpa using hcc) hc

end Go.Proofs

namespace Go.Proofs
open Go.Sx

/-! ### The reference implementation's -/

/-! ### The law -/

theorem cyc_chain {n : Nat} {arcs : List Lnk} {T : Tr} {v : Nat} {P kk : Nat → Nat} {M : Nat} (hok : ∀ l ∈ arcs, ArcOK n l) (h : Cyc n arcs T v P kk M) : ∀ m, ∀ s : Int,
    chainF arcs (cycL n arcs kk (m + 1)).reverse (arcs.getD (kk (n + 1 + m) / 2) ⟨0, 0, 0, 0⟩).f s = some (s + wsum (fun m => (arcs.getD (kk (n + 1 + m) / 2) ⟨0, 0, 0, 0⟩).m) (m + 1), (arcs.getD (kk (n + 1) / 2) ⟨0, 0, 0, 0⟩).t) := by
  have hmem : ∀ m, arcs.getD (kk m / 2) ⟨0, 0, 0, 0⟩ ∈ arcs ∧ plc n (arcs.getD (kk m / 2) ⟨0, 0, 0, 0⟩).t = P m ∧ plc n (arcs.getD (kk m / 2) ⟨0, 0, 0, 0⟩).f = P (m + 1) := by
    intro m
    obtain ⟨l, h1, h2, h3⟩ := h.lnk m
    rw [List.getD_eq_getElem?_getD, h1]
    exact ⟨List.mem_of_getElem? h1, h2, h3⟩
  intro m
  induction m with
  | zero =>
    intro s
    rw [cycL_succ, List.reverse_append]
    show chainF arcs [arcs.getD (kk (n + 1) / 2) ⟨0, 0, 0, 0⟩] _ s = _
    unfold chainF
    rw [if_pos ⟨(hmem _).1, rfl⟩]
    unfold chainF
    simp [wsum]
  | succ m ih =>
    intro s
    rw [cycL_succ, List.reverse_append]
    show chainF arcs (arcs.getD (kk (n + 1 + (m + 1)) / 2) ⟨0, 0, 0, 0⟩ :: (cycL n arcs kk (m + 1)).reverse) _ s = _
    unfold chainF
    rw [if_pos ⟨(hmem _).1, rfl⟩]
    have e : (arcs.getD (kk (n + 1 + (m + 1)) / 2) ⟨0, 0, 0, 0⟩).t = (arcs.getD (kk (n + 1 + m) / 2) ⟨0, 0, 0, 0⟩).f := by
      refine plc_inj (hok _ (hmem _).1).2.1 (hok _ (hmem _).1).1 ?_
      rw [(hmem _).2.1, (hmem _).2.2]; rfl
    rw [e, ih]
    have e2 : wsum (fun m => (arcs.getD (kk (n + 1 + m) / 2) ⟨0, 0, 0, 0⟩).m) (m + 1 + 1) = wsum (fun m => (arcs.getD (kk (n + 1 + m) / 2) ⟨0, 0, 0, 0⟩).m) (m + 1) + (arcs.getD (kk (n + 1 + (m + 1)) / 2) ⟨0, 0, 0, 0⟩).m := rfl
    rw [e2]
    congr 2
    omega

theorem cyc_check {bs : List (Int × Int)} {ls : List Lnk} {T : Tr} {v : Nat} {P kk : Nat → Nat} {M : Nat} (hs : SysOK bs ls) (h : Cyc bs.length (graphF bs ls 0) T v P kk M) : checkCycF bs ls (cycL bs.length (graphF bs ls 0) kk M).reverse = 0 := by
  have hM := h.pos
  have hL := h.len
  have hnb := hs.nb
  have hln : (cycL bs.length (graphF bs ls 0) kk M).reverse.length = M := by simp [cycL]
  have hok := graphF_ok hs 0
  obtain ⟨m, rfl⟩ : ∃ m, M = m + 1 := ⟨M - 1, by omega⟩
  have hch := cyc_chain hok h m 0
  rw [Int.zero_add] at hch
  have hneg := h.neg
  have hhead : headI (cycL bs.length (graphF bs ls 0) kk (m + 1)).reverse = ((graphF bs ls 0).getD (kk (bs.length + 1 + m) / 2) ⟨0, 0, 0, 0⟩).f := by
    unfold headI
    rw [cycL_succ, List.reverse_append]; rfl
  have hend : ((graphF bs ls 0).getD (kk (bs.length + 1) / 2) ⟨0, 0, 0, 0⟩).t = ((graphF bs ls 0).getD (kk (bs.length + 1 + m) / 2) ⟨0, 0, 0, 0⟩).f := by
    obtain ⟨l1, g1, g2, g3⟩ := h.lnk (bs.length + 1)
    obtain ⟨l2, k1, k2, k3⟩ := h.lnk (bs.length + 1 + m)
    rw [List.getD_eq_getElem?_getD, g1, List.getD_eq_getElem?_getD, k1]
    refine plc_inj (hok _ (List.mem_of_getElem? g1)).2.1 (hok _ (List.mem_of_getElem? k1)).1 ?_
    show plc bs.length l1.t = plc bs.length l2.f
    rw [g2, k3]
    exact h.per.symm
  unfold checkCycF
  rw [if_neg (by rw [checkF_ok.2 hs]; simp), if_neg (by omega), if_neg (by omega), hhead]
  have e : chainR (allF bs ls) (cycL bs.length (graphF bs ls 0) kk (m + 1)).reverse ((graphF bs ls 0).getD (kk (bs.length + 1 + m) / 2) ⟨0, 0, 0, 0⟩).f ((graphF bs ls 0).getD (kk (bs.length + 1 + m) / 2) ⟨0, 0, 0, 0⟩).f =
      (wsum (fun m => ((graphF bs ls 0).getD (kk (bs.length + 1 + m) / 2) ⟨0, 0, 0, 0⟩).m) (m + 1), true) := by
    unfold chainR
    rw [← graphF_zero bs ls, hch, hend]
    simp
  rw [e]
  rw [if_neg]
  simp only [Bool.true_eq_false, false_or]
  omega

end Go.Proofs

/-
  Plain lemmas, part 13: a flow over the arcs of a system: what it brings to each place, and how a path changes it. Conditions: none; definitions and plain lemmas.
-/
namespace Go
namespace Proofs

/-! ### A path -/

end Proofs
end Go

/-
  Plain lemmas, part 14: the greatest value of a form is found: the flow is carried along cheapest paths until nothing is left. Conditions: none; definitions and plain lemmas.
-/
namespace Go
namespace Proofs

end Proofs
end Go

/-
  Plain lemmas, part 15: the greatest value of a form is what the program's function answers: a flow, its cost, an allowed point at which the form has this value. Conditions: none; definitions and plain lemmas.
-/
namespace Go
namespace Proofs

end Proofs
end Go

namespace Go.Proofs
open Go.Sx

end Go.Proofs

namespace Go.Proofs
open Go.Sx

/-! ### Forms -/

end Go.Proofs

/-
  Plain lemmas, part 16: the value of a form at a point, its coefficients, and what uses of links show. Conditions: none; definitions and plain lemmas.
-/
namespace Go
namespace Proofs

/-! ### A flow's uses -/

end Proofs
end Go

namespace Go.Proofs
open Go.Sx

end Go.Proofs

namespace Go.Proofs
open Go.Sx

end Go.Proofs

namespace Go.Proofs
open Go.Sx

end Go.Proofs

namespace Go.Proofs
open Go.Sx

end Go.Proofs

namespace Go.Proofs
open Go.Sx

/-- A system that does not contradict itself and is not too large. -/
structure NetW (bs : List (Int × Int)) (ls : List Lnk) : Prop where
  few : bs.length ≤ 14 ∧ ls.length ≤ 150
  sys : SysOK bs ls
  calm : Calm bs ls 0

end Go.Proofs

namespace Go.Proofs
open Go.Sx

theorem newErr_t (bs : List (Int × Int)) (ls : List Lnk) (hb : bs.length ≤ 1000000) (hl : ls.length ≤ 1000000) (hc : checkF bs ls ≠ 0) :
    Triple Try.prog 64 [sysA bs.length ls.length] (sysH bs ls) 2 (.tup [.inl (.v (.pointer none)), .inl (.v (.int .i64 (checkF bs ls)))]) [] := by
  have hce := conflictErr_t bs ls hb hl hc
  generalize checkF bs ls = c at *
  refine triple_of tB_ok Try.func64 rfl Try.call64 rfl ?_
  intro ρ w hH
  conv => whnf
  refine call_step hce rfl rfl ?_
  conv => whnf
  refine ⟨(by repeat' (first | exact trivial | exact rfl | refine And.intro ?_ ?_ | ((conv => whnf); first | exact trivial | exact rfl | refine And.intro ?_ ?_ | omega))), (by repeat' (first | exact trivial | exact rfl | refine And.intro ?_ ?_ | ((conv => whnf); first | exact trivial | exact rfl | refine And.intro ?_ ?_ | omega))), ?_⟩
  conv => whnf
  refine ⟨fun h2 => ?_, fun h2 => absurd (by simpa using (show (c != 0) = false from h2)) hc⟩
  conv => whnf
  repeat' (first | exact trivial | exact rfl | refine And.intro ?_ ?_ | ((conv => whnf); first | exact trivial | exact rfl | refine And.intro ?_ ?_ | omega))

theorem newClash_t (bs : List (Int × Int)) (ls : List Lnk) (hs : SysOK bs ls) (h : ¬ Calm bs ls 0) :
    Triple Try.prog 64 [sysA bs.length ls.length] (sysH bs ls) 2 (.tup [.inl (.v (.pointer none)), .inl (.v (.int .i64 9))]) [] := by
  obtain ⟨v, P, kk, M, hch, hv, hcy⟩ := cyc_of (graphF_ok hs 0) (Nat.le_refl _) h
  have hce := conflictYes_t bs ls v P kk M hs hch hcy
  refine triple_of tB_ok Try.func64 rfl Try.call64 rfl ?_
  intro ρ w hH
  conv => whnf
  refine call_step hce rfl rfl ?_
  conv => whnf
  refine ⟨(by repeat' (first | exact trivial | exact rfl | refine And.intro ?_ ?_ | ((conv => whnf); first | exact trivial | exact rfl | refine And.intro ?_ ?_ | omega))), (by repeat' (first | exact trivial | exact rfl | refine And.intro ?_ ?_ | ((conv => whnf); first | exact trivial | exact rfl | refine And.intro ?_ ?_ | omega))), ?_⟩
  conv => whnf
  refine ⟨fun hc => absurd hc (by simp), fun hc => ?_⟩
  conv => whnf
  repeat' (first | exact trivial | exact rfl | refine And.intro ?_ ?_ | ((conv => whnf); first | exact trivial | exact rfl | refine And.intro ?_ ?_ | omega))

end Go.Proofs

/-
  Plain lemmas, part 17: sums of forms. Conditions: none; definitions and plain lemmas.
-/
namespace Go
namespace Proofs

end Proofs
end Go

namespace Go.Proofs
open Go.Sx

end Go.Proofs

namespace Go
namespace Sx

/-! ### Making room where there is no slice yet: cap(nil), append(nil, make(..)...) -/

def capNilK (B : Tabs) (t : TypeId) (x : SV) (K : Eff → Prop) : Prop :=
  match x, lookT B.T t with
  | .c (.v (.slice none 0 0)), some ⟨.slice _, _, _, _⟩ => K ⟨iv .i64 0, [], [], []⟩
  | _, _ => False

theorem capNil_step {cx : Cx} {B : Tabs} (hB : TabsOK cx.P B) {o : Oper} {e : Env} {H : Heap} {nx : Nat} {K : Eff → Prop} {c : Call} {x : Operand} {t : TypeId} (ho : o.op = .call c) (hc : c.callee = .builtin .cap) (hca : c.args = #[x]) (hct : c.argTypes = #[t])
    (h : capNilK B t (ev e x) K) : ∃ F, CallOK cx o e H nx F ∧ K F := by
  have hx : x ∈ o.op.operands.toList := by simp [ho, Op.operands, Call.operands, hc, hca]
  unfold capNilK at h
  split at h
  · rename_i el s0 b0 z0 hex ht
    refine ⟨_, ⟨?_, fun j hj => by cases hj⟩, h⟩
    intro ρ s a w hs hr _ _ hdst KK Q hKK
    have hx1 := reads_fit hx (fun t ht => by rw [← hr t ht]; exact hs.env t)
    rw [hex] at hx1
    simp only [SV.rel, SC.rel] at hx1
    obtain ⟨ds, hds, hks⟩ := run_und_kd hB.T ht w
    have e1 := kd_slice hks; subst e1
    have hrun : (execOp a.eval o).run cx.P w = .ok (.value (.int .i64 0)) w := by
      rw [run_builtin ho hc]
      simp [builtin, hca, hct, Builtin.cap_, hx1, hds, goInt]
    refine wpIn_of_value (by simp [ho]) hrun (hKK ρ _ w ?_ (fun _ _ => rfl))
    exact hs.putO hdst rfl (below_iv _ _ _)
  · exact h.elim

def growK (B : Tabs) (A : Arr) (t tn : TypeId) (x y : SV) (nx : Nat) (K : Eff → Prop) : Prop :=
  match lookT B.T t, lookT B.T tn, x, y with
  | some ⟨.slice el, _, _, _⟩, some ⟨.int .i64, _, _, _⟩, .c (.v (.slice none 0 0)), .c (.v (.int .i64 n)) => (match lookT B.T el with
    | some ti => bif Nat.beq ti.size A.sz && Nat.ble 1 A.sz then
        ∃ N : Nat, (n = (N : Int) ∧ 0 < N ∧ N * (ti.bytes + 1) ≤ 140737488355328 ∧ A.xs = []) ∧
        K ⟨.c (.s nx 0 N A.sz), [], [(nx, true, .arr A)], [nx]⟩ else False
    | none => False)
  | _, _, _, _ => False

theorem grow_step {cx : Cx} {B : Tabs} (hB : TabsOK cx.P B) {o : Oper} {e : Env} {H : Heap} {nx : Nat} {K : Eff → Prop} {c : Call} {x y : Operand} {t tn : TypeId} (A : Arr) (hA : A.nm = []) (ho : o.op = .call c) (hc : c.callee = .builtin .append) (hca : c.args = #[x, y]) (hct : c.argTypes = #[t, tn])
    (h : growK B A t tn (ev e x) (ev e y) nx K) : ∃ F, CallOK cx o e H nx F ∧ K F := by
  have hx : x ∈ o.op.operands.toList := by simp [ho, Op.operands, Call.operands, hc, hca]
  have hy : y ∈ o.op.operands.toList := by simp [ho, Op.operands, Call.operands, hc, hca]
  unfold growK at h
  split at h
  · rename_i el s0 b0 z0 s1 b1 z1 n ht htn hex hey
    split at h
    · rename_i ti hti
      obtain ⟨hb, N, ⟨rfl, hN, h3, hxs⟩, hK⟩ := bif_and h
      simp only [Bool.and_eq_true] at hb
      have hb1 := Nat.eq_of_beq_eq_true hb.1
      have hb2 := Nat.le_of_ble_eq_true hb.2
      refine ⟨_, ⟨?_, fun j hj => by simp at hj; subst hj; simp⟩, hK⟩
      intro ρ s a w hs hr _ hnew hdst KK Q hKK
      obtain ⟨hfr, hlt, hn0⟩ := hnew nx (by simp)
      have hx1 := reads_fit hx (fun t ht => by rw [← hr t ht]; exact hs.env t)
      have hy1 := reads_fit hy (fun t ht => by rw [← hr t ht]; exact hs.env t)
      rw [hex] at hx1; rw [hey] at hy1
      simp only [SV.rel, SC.rel] at hx1 hy1
      obtain ⟨i, z, hi, hz, hisz, hiby, hzz⟩ := ti_parts hB hti
      have hbd : N * i.bytes ≤ 140737488355328 := by rw [hiby]; exact Nat.le_trans (Nat.mul_le_mul_left _ (Nat.le_succ _)) h3
      have hln : N * 1 ≤ 140737488355328 := Nat.le_trans (Nat.mul_le_mul_left _ (by omega)) h3
      have htn' : cx.P.underlying tn = some (.int .i64) := by
        obtain ⟨i, d, z, hi, hd, hz, hk, _⟩ := tiOf_parts (hB.T.get htn)
        cases d <;> simp [kdOf] at hk
        rw [hd, hk]
      have hrunA := Lib.run_append_nil_zeros (P := cx.P) w t tn o.type el i z .i64 .i64 (und_slice hB ht) htn' hi hz N hN (by omega) (by omega) (by omega)
      have hge := grownCap_ge w N 0 el
      generalize hgc : grownCap w N 0 el = gc at hrunA hge
      have hzsz : z.cells.size = A.sz := by
        have := congrArg List.length hzz
        rw [← hb1]
        have hz2 := hB.zsz el ti hti
        simpa [hz2] using this
      have hrun : (execOp a.eval o).run cx.P w = .ok (.value (.slice (some ⟨w.heap.size, 0, none⟩) N gc)) (w.drew.alloc (.cells (Builtin.zeroCells z.cells N ++ Builtin.zeroCells z.cells (gc - N)) el)) := by
        rw [run_builtin ho hc, hca, hct]
        simp only [List.map_toArray, List.map_cons, List.map_nil, builtin, hx1, hy1, Sem.run_bind, hrunA, Result.andThen_ok, Sem.run_pure]
      refine wpIn_of_value (by simp [ho]) hrun (hKK (upd ρ nx ⟨w.heap.size, 0, gc⟩) _ _ ?_ (fun j hj => upd_ne (by simpa using hj)))
      have hbelow : (SO.arr A).below s.nx := fun (j : Nat) (hj : anyMem [j] A.nm = true) => by rw [hA] at hj; cases hj
      have hsat := hs.newAt (k := nx) (cap := gc) (o := .arr A) (ob := .cells (Builtin.zeroCells z.cells N ++ Builtin.zeroCells z.cells (gc - N)) el (0, 0)) hfr hlt hn0 hbelow ?_
      · refine (hsat.eqHeap (w' := w.drew.alloc _) rfl).putO hdst ?_ (by rw [SV.below_c]; intro j hj; simp [SC.nms] at hj; subst hj; exact hlt)
        simp only [SV.rel, SC.rel, upd_eq, Nat.sub_zero, Nat.zero_mul, Nat.zero_add]
        exact ⟨_, rfl, hge, fun _ => by simp [adr, upd_eq]⟩
      · refine satO_new_arr (by rw [hxs]; exact Nat.zero_le _) ?_ ?_
        · simp only [Array.size_append, size_zeroCells, hzsz]
          rw [← Nat.add_mul]; congr 1; omega
        · intro i' xx hxx
          rw [hxs] at hxx; cases hxx
    · exact h.elim
  · exact h.elim

end Sx
end Go

namespace Go
namespace Sx

/-! ### A list of slices, written out -/

def inVs (k : Nat) (e : Env) : List (Nat × Operand) → Bool
  | [] => false
  | p :: r => bif (ev e p.2).uses [k] then true else inVs k e r

def allVs (e : Env) (ps : List (Nat × Operand)) : List Nat → Bool
  | [] => true
  | k :: r => bif inVs k e ps then allVs e ps r else false

theorem inVs_get {k : Nat} {e : Env} : ∀ {ps : List (Nat × Operand)}, inVs k e ps = true → ∃ p ∈ ps, (ev e p.2).uses [k] = true
  | [], h => by cases h
  | p :: r, h => by
    simp only [inVs] at h
    cases hu : (ev e p.2).uses [k] with
    | true => exact ⟨p, List.mem_cons_self .., hu⟩
    | false =>
      rw [hu] at h
      obtain ⟨q, hq, h2⟩ := inVs_get h
      exact ⟨q, List.mem_cons_of_mem _ hq, h2⟩

theorem allVs_get {e : Env} {ps : List (Nat × Operand)} : ∀ {l : List Nat} {k : Nat}, allVs e ps l = true → k ∈ l → ∃ p ∈ ps, (ev e p.2).uses [k] = true
  | [], _, _, h => by cases h
  | j :: r, k, h, hk => by
    simp only [allVs] at h
    cases hu : inVs j e ps with
    | false => rw [hu] at h; cases h
    | true =>
      rw [hu] at h
      rcases List.mem_cons.1 hk with rfl | hk
      · exact inVs_get hu
      · exact allVs_get h hk

def bsNK (B : Tabs) (A : Arr) (e : Env) (t : TypeId) (len : Nat) (ps : List (Nat × Operand)) (nx : Nat) (K : Eff → Prop) : Prop :=
  bif allVs e ps A.nm then bsK B A e t len ps nx K else False

theorem bsN_step {cx : Cx} {B : Tabs} (hB : TabsOK cx.P B) {o : Oper} {e : Env} {H : Heap} {nx : Nat} {K : Eff → Prop} {t : TypeId} {len : Nat} {parts : Array (Nat × Operand)} (A : Arr)
    (ho : o.op = .buildSlice t len parts) (h : bsNK B A e t len parts.toList nx K) : ∃ F, CallOK cx o e H nx F ∧ K F := by
  have hmem : ∀ p ∈ parts.toList, p.2 ∈ o.op.operands.toList := fun p hp => by
    simp [ho, Op.operands]; exact ⟨p.1, by simpa using hp⟩
  obtain ⟨hall, h⟩ := bif_and h
  unfold bsK at h
  split at h
  · rename_i el s0 b0 z0 ht
    split at h
    · rename_i ti hti
      split at h
      · rename_i l hl
        obtain ⟨hb, ⟨hlen, hent⟩, hK⟩ := bif_and h
        simp only [Bool.and_eq_true] at hb
        have hb1 := Nat.eq_of_beq_eq_true hb.1
        have hb2 := Nat.le_of_ble_eq_true hb.2.1
        have hb3 := Nat.le_of_ble_eq_true hb.2.2
        refine ⟨_, ⟨loc_new (by simp [ho]) below_s ?_ ?_, fun j hj => by simp at hj; subst hj; simp⟩, hK⟩
        · intro n' hn' j hj
          obtain ⟨k, hk, hjk⟩ := anyMem_iff.1 (show anyMem [j] A.nm = true from hj)
          simp only [List.mem_singleton] at hjk
          subst hjk
          obtain ⟨p, hp, hu⟩ := allVs_get hall hk
          exact (reads_below (hmem p hp) hn') k hu
        · intro ρ a w hr hfr
          obtain ⟨i, z, hi, hz, hisz, hiby, hzz⟩ := ti_parts hB hti
          have hr' : ∀ p ∈ parts.toList, (ev e p.2).rel (upd ρ nx ⟨w.heap.size, 0, len⟩) (a.eval p.2) := by
            intro p hp
            refine SV.rel_upd' (reads_fit (hmem p hp) hr) ?_
            have hm := hmem p hp
            cases hx : p.2 with
            | tmp t => rw [hx] at hm; exact hfr t hm
            | const v => exact evC_uses v _
            | global g => simp [ev, SV.uses, SC.uses, SC.nms, anyMem]
            | func g => simp [ev, SV.uses, SC.uses, SC.nms, anyMem]
          have hinit : ((Array.range (len * i.size)).map (z.cells[· % z.cells.size]!)).size = len * ti.size := by simp [hisz]
          obtain ⟨out, hout, hrel⟩ := fillR_ok (ρ := upd ρ nx ⟨w.heap.size, 0, len⟩) (a := a) (e := e) (sz := ti.size) parts.toList (junks (len * ti.size)) ((Array.range (len * i.size)).map (z.cells[· % z.cells.size]!)) l
            (by have := @junks_rel (upd ρ nx ⟨w.heap.size, 0, len⟩) ((Array.range (len * i.size)).map (z.cells[· % z.cells.size]!)).toList; rwa [Array.length_toList, hinit] at this) hr' hl
          have hlo := relL_length hrel
          have hrelA := entL_rel0 hent hrel
          have hlA := relL_length hrelA
          have hencl : ∀ xs : List A.α, (encAll A xs).length = xs.length * A.sz := by
            intro xs; induction xs with
            | nil => simp [encAll]
            | cons x r ih => simp only [encAll, List.length_append, ih, A.hl, List.length_cons, Nat.add_mul]; omega
          refine ⟨.slice (some ⟨w.heap.size, 0, none⟩) len len, .cells out el (0, 0), len, ?_, ?_, satO_new_arr (by omega) ?_ ?_⟩
          · have hsz : (sizeOf el).run cx.P w = .ok i.size w := by simp [sizeOf, typeInfo, hi]
            have hle : ¬ (len * i.size > 2 ^ 24) := by rw [hisz]; omega
            have h2 : (Array.map (fun x => (x.fst, a.eval x.snd)) parts).toList = parts.toList.map fun p => (p.1, a.eval p.2) := by simp
            simp only [execOp, ho, Instr.buildSlice, Sem.run_bind, run_underlying (und_slice hB ht), Result.andThen_ok, hsz, if_neg hle, h2]
            by_cases h0 : len * i.size = 0
            · have hl0 : len = 0 := by
                rcases Nat.mul_eq_zero.1 h0 with h | h
                · exact h
                · omega
              subst hl0
              simp only [Nat.zero_mul, if_true, Sem.run_pure, Result.andThen_ok]
              simp only [Nat.zero_mul] at hout
              rw [← hisz] at hout
              have e0 : (Array.map (fun x => (#[] : Array Value)[x % (#[] : Array Value).size]!) (Array.range 0)) = (Array.map (fun x => z.cells[x % z.cells.size]!) (Array.range 0)) := by simp
              simp only [e0, hout, Sem.run_bind, newRow, newObj, Sem.run, Result.andThen_ok, Sem.run_pure]
              rfl
            · have hzr : (zeroValue el).run cx.P w = .ok z w := by simp [zeroValue, typeInfo, hi, hz]
              rw [← hisz] at hout
              simp only [if_neg h0, Sem.run_bind, hzr, Result.andThen_ok, Sem.run_pure, hout, newRow, newObj, Sem.run]
              rfl
          · simp only [SV.rel, SC.rel, upd_eq, Nat.sub_zero, Nat.zero_mul, Nat.zero_add]
            exact ⟨_, rfl, Nat.le_refl _, fun _ => by simp [adr, upd_eq]⟩
          · rw [hencl] at hlA; rw [← hlen]; simpa using hlA.symm
          · intro i' xx hxx j d hd
            obtain ⟨v, hv, hvr⟩ := relL_get hrelA (encAll_get hxx hd)
            exact ⟨v, by simpa using hv, hvr⟩
      · exact h.elim
    · exact h.elim
  · exact h.elim

end Sx
end Go

namespace Go.Proofs
open Go.Sx

theorem growLink_t (n : Nat) (hn : n ≤ 1000000) : Triple Try.prog 142 [.c (.v (.slice none 0 0)), iv .i64 n] [] 0 (.c (.s 0 0 0 4)) [(0, true, .arr (aLink []))] := by
  refine triple_of tB_ok Try.func142 rfl Try.call142 rfl ?_
  intro ρ w hH
  conv => whnf
  refine ⟨fun hc => absurd (of_decide_eq_true (show decide ((n : Int) < 0) = true from hc)) (by omega), fun hc => ?_⟩
  conv => whnf
  refine capNil_step tB_ok rfl rfl rfl rfl ?_
  conv => whnf
  refine ⟨0, rfl, ?_⟩
  conv => whnf
  refine ⟨(n : Int), by show IntKind.i64.wrap ((n : Int) - 0) = n; rw [Int.sub_zero]; exact wrapId ⟨by omega, by omega⟩, ?_⟩
  conv => whnf
  refine ⟨fun hc => ?_, fun hc => ?_⟩
  · have hp : 0 < n := by have := of_decide_eq_true (show decide ((0 : Int) < n) = true from hc); omega
    conv => whnf
    refine capNil_step tB_ok rfl rfl rfl rfl ?_
    conv => whnf
    refine ⟨0, rfl, Nat.le_refl _, ?_⟩
    conv => whnf
    refine ⟨Nat.le_refl _, ?_⟩
    conv => whnf
    refine grow_step tB_ok (aLink []) rfl rfl rfl rfl rfl ?_
    conv => whnf
    refine ⟨n, ⟨rfl, hp, by show n * 33 ≤ _; omega, rfl⟩, ?_⟩
    conv => whnf
    refine ⟨0, rfl, Nat.zero_le _, ?_⟩
    conv => whnf
    refine ⟨Nat.le_refl _, ?_⟩
    conv => whnf
    repeat' (first | exact trivial | exact rfl | refine And.intro ?_ ?_ | ((conv => whnf); first | exact trivial | exact rfl | refine And.intro ?_ ?_ | omega))
  · conv => whnf
    repeat' (first | exact trivial | exact rfl | refine And.intro ?_ ?_ | ((conv => whnf); first | exact trivial | exact rfl | refine And.intro ?_ ?_ | omega))

theorem concatLink_t (xs ys : List Lnk) (h1 : xs.length ≤ 100000) (h2 : ys.length ≤ 100000) : Triple Try.prog 111 [.c (.s 0 0 2 1)]
    [(0, false, .arr (aRows 1 [1, 2] [[.s 1 0 xs.length 4], [.s 2 0 ys.length 4]])), (1, false, .arr (aLink xs)), (2, false, .arr (aLink ys))] 3 (.c (.s 3 0 (xs ++ ys).length 4)) [(3, true, .arr (aLink (xs ++ ys)))] := by
  refine triple_of tB_ok Try.func111 rfl Try.call111 rfl ?_
  intro ρ w hH
  conv => whnf
  refine loop_step tB_ok (G := Nat × Int) 0 [] (fun g => [(11, iv .i64 g.1), (3, iv .i64 g.2)]) (fun _ => []) (fun g => (g.1 = 0 ∧ g.2 = 0) ∨ (g.1 = 1 ∧ g.2 = xs.length) ∨ (g.1 = 2 ∧ g.2 = (xs.length : Int) + ys.length)) (fun g => 2 - g.1) ?_
  conv => whnf
  refine ⟨⟨(0, 0), .inl ⟨rfl, rfl⟩, ?_⟩, ?_⟩
  · conv => whnf
    repeat' (first | exact trivial | exact rfl | refine And.intro ?_ ?_ | ((conv => whnf); first | exact trivial | exact rfl | refine And.intro ?_ ?_ | omega))
  rintro ⟨i, tot⟩ hi ρ1 t1 hρ1
  have hi : (i = 0 ∧ tot = 0) ∨ (i = 1 ∧ tot = xs.length) ∨ (i = 2 ∧ tot = (xs.length : Int) + ys.length) := hi
  dsimp only
  rcases hi with ⟨rfl, rfl⟩ | ⟨rfl, rfl⟩ | ⟨rfl, rfl⟩
  · conv => whnf
    refine ⟨fun hc => ?_, fun hc => absurd hc (by decide)⟩
    conv => whnf
    refine ⟨0, rfl, by decide, by show _ < 2; decide, ?_⟩
    conv => whnf
    refine ⟨(xs.length : Int), by show IntKind.i64.wrap ((0 : Int) + xs.length) = xs.length; rw [Int.zero_add]; exact wrapId ⟨by omega, by omega⟩, ?_⟩
    conv => whnf
    refine ⟨fun hc => absurd (of_decide_eq_true hc) (by omega), fun hc => ?_⟩
    conv => whnf
    refine ⟨1, rfl, ?_⟩
    refine ⟨(1, (xs.length : Int)), .inr (.inl ⟨rfl, rfl⟩), by show 2 - 1 < 2 - 0; decide, ?_⟩
    conv => whnf
    refine ⟨rfl, ?_⟩
    conv => whnf
    repeat' (first | exact trivial | exact rfl | refine And.intro ?_ ?_ | ((conv => whnf); first | exact trivial | exact rfl | refine And.intro ?_ ?_ | omega))
  · conv => whnf
    refine ⟨fun hc => ?_, fun hc => absurd hc (by decide)⟩
    conv => whnf
    refine ⟨1, rfl, by decide, by show _ < 2; decide, ?_⟩
    conv => whnf
    refine ⟨(xs.length : Int) + ys.length, wrapId ⟨by omega, by omega⟩, ?_⟩
    conv => whnf
    refine ⟨fun hc => absurd (of_decide_eq_true hc) (by omega), fun hc => ?_⟩
    conv => whnf
    refine ⟨2, rfl, ?_⟩
    refine ⟨(2, (xs.length : Int) + ys.length), .inr (.inr ⟨rfl, rfl⟩), by show 2 - 2 < 2 - 1; decide, ?_⟩
    conv => whnf
    refine ⟨rfl, ?_⟩
    conv => whnf
    repeat' (first | exact trivial | exact rfl | refine And.intro ?_ ?_ | ((conv => whnf); first | exact trivial | exact rfl | refine And.intro ?_ ?_ | omega))
  conv => whnf
  refine ⟨fun hc => absurd (show decide (((2 : Nat) : Int) < 2) = true from hc) (by decide), fun hc => ?_⟩
  conv => whnf
  have hg := growLink_t (xs.length + ys.length) (by omega)
  rw [show ((xs.length + ys.length : Nat) : Int) = (xs.length : Int) + ys.length from by omega] at hg
  refine call_step hg rfl rfl ?_
  conv => whnf
  refine ⟨(by repeat' (first | exact trivial | exact rfl | refine And.intro ?_ ?_ | ((conv => whnf); first | exact trivial | exact rfl | refine And.intro ?_ ?_ | omega))), (by repeat' (first | exact trivial | exact rfl | refine And.intro ?_ ?_ | ((conv => whnf); first | exact trivial | exact rfl | refine And.intro ?_ ?_ | omega))), ?_⟩
  conv => whnf
  refine loop_step tB_ok (G := Nat × List Lnk) 1 [3] (fun g => [(27, iv .i64 g.1), (6, .c (.s 4 0 g.2.length 4))]) (fun g => [(4, true, .arr (aLink g.2))]) (fun g => (g.1 = 0 ∧ [] = g.2) ∨ (g.1 = 1 ∧ xs = g.2) ∨ (g.1 = 2 ∧ xs ++ ys = g.2)) (fun g => 2 - g.1) ?_
  conv => whnf
  refine ⟨⟨(0, []), .inl ⟨rfl, rfl⟩, ?_⟩, ?_⟩
  · conv => whnf
    repeat' (first | exact trivial | exact rfl | refine And.intro ?_ ?_ | ((conv => whnf); first | exact trivial | exact rfl | refine And.intro ?_ ?_ | omega))
  rintro ⟨i, out⟩ hi ρ2 t2 hρ2
  have hi : (i = 0 ∧ [] = out) ∨ (i = 1 ∧ xs = out) ∨ (i = 2 ∧ xs ++ ys = out) := hi
  dsimp only
  rcases hi with ⟨rfl, rfl⟩ | ⟨rfl, rfl⟩ | ⟨rfl, rfl⟩
  · conv => whnf
    refine ⟨fun hc => ?_, fun hc => absurd hc (by decide)⟩
    conv => whnf
    refine ⟨0, rfl, by decide, by show _ < 2; decide, ?_⟩
    conv => whnf
    refine app_step tB_ok (aLink []) xs (fun _ => rfl) rfl rfl rfl rfl ?_
    conv => whnf
    refine ⟨⟨rfl, rfl, Nat.le_refl _, by rw [Nat.zero_add]; exact Nat.le_refl _, by show (List.length (α := Lnk) [] + xs.length) * 33 ≤ _; first | omega | (simp only [List.length_nil]; omega)⟩, ?_⟩
    conv => whnf
    refine ⟨1, rfl, ?_⟩
    refine ⟨(1, xs), .inr (.inl ⟨rfl, rfl⟩), by show 2 - 1 < 2 - 0; decide, ?_⟩
    conv => whnf
    refine ⟨rfl, ?_⟩
    conv => whnf
    repeat' (first | exact trivial | exact rfl | refine And.intro ?_ ?_ | ((conv => whnf); first | exact trivial | exact rfl | refine And.intro ?_ ?_ | omega))
    all_goals first | exact (congrArg aLink appAll : _) | exact (congrArg aLink (appAll (xs := [])) : _) | simp
  · conv => whnf
    refine ⟨fun hc => ?_, fun hc => absurd hc (by decide)⟩
    conv => whnf
    refine ⟨1, rfl, by decide, by show _ < 2; decide, ?_⟩
    conv => whnf
    refine app_step tB_ok (aLink xs) ys (fun _ => rfl) rfl rfl rfl rfl ?_
    conv => whnf
    refine ⟨⟨rfl, rfl, Nat.le_refl _, by rw [Nat.zero_add]; exact Nat.le_refl _, by show (List.length (α := Lnk) xs + ys.length) * 33 ≤ _; first | omega | (simp only [List.length_nil]; omega)⟩, ?_⟩
    conv => whnf
    refine ⟨2, rfl, ?_⟩
    refine ⟨(2, xs ++ ys), .inr (.inr ⟨rfl, rfl⟩), by show 2 - 2 < 2 - 1; decide, ?_⟩
    conv => whnf
    refine ⟨rfl, ?_⟩
    conv => whnf
    repeat' (first | exact trivial | exact rfl | refine And.intro ?_ ?_ | ((conv => whnf); first | exact trivial | exact rfl | refine And.intro ?_ ?_ | omega))
    all_goals first | exact (congrArg aLink appAll : _) | exact (congrArg aLink (appAll (xs := [])) : _) | simp
  conv => whnf
  refine ⟨fun hc => absurd (show decide (((2 : Nat) : Int) < 2) = true from hc) (by decide), fun hc => ?_⟩
  conv => whnf
  repeat' (first | exact trivial | exact rfl | refine And.intro ?_ ?_ | ((conv => whnf); first | exact trivial | exact rfl | refine And.intro ?_ ?_ | omega))

end Go.Proofs

namespace Go.Proofs
open Go.Sx

end Go.Proofs

namespace Go.Proofs
open Go.Sx

theorem spansSame_t (xs : List (Int × Int)) (hb : xs.length ≤ 1000000) : Triple Try.prog 58 [.c (.s 0 0 xs.length 2), .c (.s 1 0 xs.length 2)] [(0, false, .arr (aSpan xs)), (1, false, .arr (aSpan xs))] 2 (bv true) [] := by
  refine triple_of tB_ok Try.func58 rfl Try.call58 rfl ?_
  intro ρ w hH
  conv => whnf
  refine ⟨fun hc => absurd hc (by simp), fun hc => ?_⟩
  conv => whnf
  refine loop_step tB_ok (G := Nat) 0 [] (fun i => [(5, iv .i64 i)]) (fun _ => []) (fun i => i ≤ xs.length) (fun i => xs.length - i) ?_
  conv => whnf
  refine ⟨⟨0, Nat.zero_le _, ?_⟩, ?_⟩
  · conv => whnf
    repeat' (first | exact trivial | exact rfl | refine And.intro ?_ ?_ | ((conv => whnf); first | exact trivial | exact rfl | refine And.intro ?_ ?_ | omega))
  intro i hi ρ1 t1 hρ1
  conv => whnf
  refine ⟨fun hc => ?_, fun hc => ?_⟩
  · have h : i < xs.length := by simpa using hc
    conv => whnf
    refine ⟨i, rfl, h, h, ?_⟩
    conv => whnf
    refine ⟨i, rfl, h, h, ?_⟩
    conv => whnf
    refine ⟨fun hc => absurd hc (by simp), fun hc => ?_⟩
    conv => whnf
    refine ⟨_, wrapId ⟨by omega, by omega⟩, ?_⟩
    refine ⟨i + 1, h, by show xs.length - (i + 1) < xs.length - i; omega, ?_⟩
    conv => whnf
    refine ⟨rfl, ?_⟩
    conv => whnf
    repeat' (first | exact trivial | exact rfl | refine And.intro ?_ ?_ | ((conv => whnf); first | exact trivial | exact rfl | refine And.intro ?_ ?_ | omega))
  · conv => whnf
    repeat' (first | exact trivial | exact rfl | refine And.intro ?_ ?_ | ((conv => whnf); first | exact trivial | exact rfl | refine And.intro ?_ ?_ | omega))

end Go.Proofs

namespace Go.Proofs
open Go.Sx

theorem take1_t (id : Int) (l : Lnk) : Triple Try.prog 125 [svL l, .c (.p 1 0 0 0)] [(1, false, .cells [.v (.int .i64 id)])] 2 (bv (l.i == id)) [] := by
  refine triple_of tB_ok Try.func125 rfl Try.call125 rfl ?_
  intro ρ w hH
  conv => whnf
  repeat' (first | exact trivial | exact rfl | refine And.intro ?_ ?_ | ((conv => whnf); first | exact trivial | exact rfl | refine And.intro ?_ ?_ | omega))

abbrev hxTake (id : Int) : Heap := [(1, false, .cells [.v (.int .i64 id)])]

theorem indexTake_t
    (id : Int)
    (xs : List Lnk) (hx : xs.length ≤ 100000) :
    Triple Try.prog 141 [.c (.s 0 0 xs.length 4), .c (.f 125 [1])]
      ((0, false, .arr (aLink xs)) :: hxTake id)
      2 (iv .i64 (idxF (fun l : Lnk => l.i == id) 0 xs)) [] := by
  refine triple_of tB_ok Try.func141 rfl Try.call141 rfl ?_
  intro ρ w hH
  conv => whnf
  refine loop_step tB_ok (G := Nat) 0 [] (fun i => [(8, iv .i64 i)]) (fun i => []) (fun i => i ≤ xs.length ∧ ∀ x ∈ xs.take i, (fun l : Lnk => l.i == id) x = false) (fun i => xs.length - i) ?_
  conv => whnf
  refine ⟨⟨0, ⟨Nat.zero_le _, by simp⟩, ?_⟩, ?_⟩
  · conv => whnf
    repeat' (first | exact trivial | exact rfl | refine And.intro ?_ ?_ | ((conv => whnf); first | exact trivial | exact rfl | refine And.intro ?_ ?_ | omega))
  intro i hi ρ1 t1 hρ1
  obtain ⟨hi, hn⟩ := hi
  conv => whnf
  refine ⟨fun hc => ?_, fun hc => ?_⟩
  · have hc : i < xs.length := by simpa using hc
    have hlt := hc
    conv => whnf
    refine ⟨i, rfl, hc, hc, ?_⟩
    conv => whnf
    refine call_step (take1_t id xs[i]) rfl rfl ?_
    conv => whnf
    refine ⟨(by repeat' (first | exact trivial | exact rfl | refine And.intro ?_ ?_ | ((conv => whnf); first | exact trivial | exact rfl | refine And.intro ?_ ?_ | omega))), (by repeat' (first | exact trivial | exact rfl | refine And.intro ?_ ?_ | ((conv => whnf); first | exact trivial | exact rfl | refine And.intro ?_ ?_ | omega))), ?_⟩
    conv => whnf
    refine ⟨fun hc => ?_, fun hc => ?_⟩
    · conv => whnf
      refine ⟨?_, trivial⟩
      show (i : Int) = idxF (fun l : Lnk => l.i == id) 0 xs
      rw [idxF_at (k := i) hlt hn hc, Nat.zero_add]
    · conv => whnf
      refine ⟨_, wrapId ⟨by omega, by omega⟩, ?_⟩
      refine ⟨i + 1, ⟨by omega, ?_⟩, by show xs.length - (i + 1) < xs.length - i; omega, ?_⟩
      · intro x hxx
        rw [take_snoc hlt] at hxx
        rcases List.mem_append.1 hxx with hxx | hxx
        · exact hn x hxx
        · simp only [List.mem_singleton] at hxx; rw [hxx]; exact hc
      conv => whnf
      refine ⟨rfl, ?_⟩
      conv => whnf
      repeat' (first | exact trivial | exact rfl | refine And.intro ?_ ?_ | ((conv => whnf); first | exact trivial | exact rfl | refine And.intro ?_ ?_ | omega))
  · have hi2 : i = xs.length := by simp at hc; omega
    subst hi2
    rw [List.take_length] at hn
    conv => whnf
    refine ⟨?_, trivial⟩
    show (-1 : Int) = idxF (fun l : Lnk => l.i == id) 0 xs
    rw [idxF_none hn]

theorem deleteTake_t
    (id : Int)
    (xs : List Lnk) (hx : xs.length ≤ 100000) :
    Triple Try.prog 124 [.c (.s 0 0 xs.length 4), .c (.f 125 [1])]
      ((0, true, .arr (aLink xs)) :: hxTake id)
      2 (.c (.s 0 0 (xs.filter fun x => !(fun l : Lnk => l.i == id) x).length 4)) [(0, true, .arr (aLink (xs.filter fun x => !(fun l : Lnk => l.i == id) x)))] := by
  refine triple_of tB_ok Try.func124 rfl Try.call124 rfl ?_
  intro ρ w hH
  conv => whnf
  refine call_step (indexTake_t id xs hx) rfl rfl ?_
  conv => whnf
  refine ⟨(by repeat' (first | exact trivial | exact rfl | refine And.intro ?_ ?_ | ((conv => whnf); first | exact trivial | exact rfl | refine And.intro ?_ ?_ | omega))), (by repeat' (first | exact trivial | exact rfl | refine And.intro ?_ ?_ | ((conv => whnf); first | exact trivial | exact rfl | refine And.intro ?_ ?_ | omega))), ?_⟩
  generalize hp : (fun l : Lnk => l.i == id) = p
  have hdel : ∀ x, (fun l : Lnk => l.i == id) x = p x := fun x => by rw [hp]
  rcases idxF_cases p xs with ⟨hi, hn⟩ | ⟨k, hk, hi, hn, hpk⟩
  · rw [hi]
    conv => whnf
    refine ⟨fun hc => ?_, fun hc => ?_⟩
    · conv => whnf
      have e : (xs.filter fun x => !p x) = xs := List.filter_eq_self.2 fun x hx => by rw [hn x hx]; rfl
      rw [e]
      repeat' (first | exact trivial | exact rfl | refine And.intro ?_ ?_ | ((conv => whnf); first | exact trivial | exact rfl | refine And.intro ?_ ?_ | omega))
    · simp at hc
  rw [hi]
  conv => whnf
  refine ⟨fun hc => ?_, fun hc => ?_⟩
  · exact absurd hc (by simp)
  conv => whnf
  refine ⟨_, wrapId ⟨by omega, by omega⟩, ?_⟩
  have hst := delC_start hk hn hpk
  have hkl : (xs.take k).length = k := by simp; omega
  refine loop_step tB_ok (G := Nat × Nat × List Lnk) 0 [] (fun g => [(6, iv .i64 g.1), (5, iv .i64 g.2.1)]) (fun g => [(0, true, .arr (aLink g.2.2))]) (fun g => (k < g.1 ∧ g.1 ≤ xs.length ∧ g.2.1 < g.1) ∧ g.2.1 = (delL p xs g.1).length ∧ g.2.2 = delC p xs g.1) (fun g => xs.length - g.1) ?_
  conv => whnf
  refine ⟨⟨(k + 1, k, xs), ⟨⟨Nat.lt_succ_self k, hk, Nat.lt_succ_self k⟩, by rw [hst.1, hkl], hst.2.symm⟩, ?_⟩, ?_⟩
  · conv => whnf
    repeat' (first | exact trivial | exact rfl | refine And.intro ?_ ?_ | ((conv => whnf); first | exact trivial | exact rfl | refine And.intro ?_ ?_ | omega))
  rintro ⟨j, k2, C⟩ ⟨⟨hj1, hj2, hj3⟩, hk2e, hCe⟩ ρ1 t1 hρ1
  have hj1 : k < j := hj1
  have hj2 : j ≤ xs.length := hj2
  have hj3 : k2 < j := hj3
  have hk2e : k2 = (delL p xs j).length := hk2e
  have hCe : C = delC p xs j := hCe
  have hCl : C.length = xs.length := by rw [hCe]; exact delC_length p xs j hj2
  have hno : ∀ (h : j < xs.length), p xs[j] = false → k2 + 1 = (delL p xs (j + 1)).length ∧ C.set k2 xs[j] = delC p xs (j + 1) := fun h hp =>
    ⟨by rw [delL_no h hp, hk2e]; simp, by rw [hk2e, hCe]; exact delC_no h hp⟩
  have hyes : ∀ (h : j < xs.length), p xs[j] = true → k2 = (delL p xs (j + 1)).length ∧ C = delC p xs (j + 1) := fun h hp =>
    ⟨by rw [delL_yes h hp]; exact hk2e, by rw [hCe]; exact (delC_yes h hp).symm⟩
  have hgt : ∀ i, j ≤ i → C[i]? = xs[i]? := fun i hi => by rw [hCe]; exact delC_get p xs j i (by omega)
  have hend : j = xs.length → C.take k2 = xs.filter fun x => !p x := fun h => by rw [hCe, hk2e, h]; exact delC_end p xs
  clear hk2e hCe
  conv => whnf
  refine ⟨fun hc => ?_, fun hc => ?_⟩
  · have hc : j < xs.length := by simpa using hc
    have hlt := hc
    have hcl : j < C.length := by omega
    have hget : C[j] = xs[j] := by
      have := hgt j (by omega)
      rw [List.getElem?_eq_getElem hcl, List.getElem?_eq_getElem hlt] at this
      exact Option.some.inj this
    have hpv : (fun l : Lnk => l.i == id) C[j] = p xs[j] := by rw [hdel, hget]
    have hkl2 : k2 < C.length := by omega
    refine ⟨j, rfl, hc, hcl, ?_⟩
    conv => whnf
    refine call_step (take1_t id C[j]) rfl rfl ?_
    conv => whnf
    refine ⟨(by repeat' (first | exact trivial | exact rfl | refine And.intro ?_ ?_ | ((conv => whnf); first | exact trivial | exact rfl | refine And.intro ?_ ?_ | omega))), (by repeat' (first | exact trivial | exact rfl | refine And.intro ?_ ?_ | ((conv => whnf); first | exact trivial | exact rfl | refine And.intro ?_ ?_ | omega))), ?_⟩
    conv => whnf
    refine ⟨fun hc => ?_, fun hc => ?_⟩
    · have hpj : p xs[j] = false := by rw [← hpv]; simpa using hc
      obtain ⟨hl1, e2⟩ := hno hlt hpj
      conv => whnf
      refine ⟨k2, rfl, by omega, hkl2, C[j], rfl, ?_⟩
      conv => whnf
      refine ⟨_, wrapId ⟨by omega, by omega⟩, ?_⟩
      conv => whnf
      refine ⟨_, wrapId ⟨by omega, by omega⟩, ?_⟩
      refine ⟨(j + 1, k2 + 1, C.set k2 C[j]), ⟨⟨by show k < j + 1; omega, hlt, by show k2 + 1 < j + 1; omega⟩, hl1, ?_⟩, by show xs.length - (j + 1) < xs.length - j; omega, ?_⟩
      · rw [hget]; exact e2
      conv => whnf
      refine ⟨rfl, ?_⟩
      conv => whnf
      repeat' (first | exact trivial | exact rfl | refine And.intro ?_ ?_ | ((conv => whnf); first | exact trivial | exact rfl | refine And.intro ?_ ?_ | omega))
    · have hpj : p xs[j] = true := by rw [← hpv]; simpa using hc
      obtain ⟨hl1, e2⟩ := hyes hlt hpj
      conv => whnf
      refine ⟨_, wrapId ⟨by omega, by omega⟩, ?_⟩
      refine ⟨(j + 1, k2, C), ⟨⟨by show k < j + 1; omega, hlt, by show k2 < j + 1; omega⟩, hl1, e2⟩, by show xs.length - (j + 1) < xs.length - j; omega, ?_⟩
      conv => whnf
      refine ⟨rfl, ?_⟩
      conv => whnf
      repeat' (first | exact trivial | exact rfl | refine And.intro ?_ ?_ | ((conv => whnf); first | exact trivial | exact rfl | refine And.intro ?_ ?_ | omega))
  · have hj4 : j = xs.length := by simp at hc; omega
    have he := hend hj4
    have hfl : (xs.filter fun x => !p x).length = k2 := by rw [← he, List.length_take]; omega
    conv => whnf
    refine ⟨Nat.le_refl _, k2, rfl, by omega, ?_⟩
    conv => whnf
    refine clear_step tB_ok rfl rfl rfl rfl ?_
    conv => whnf
    refine ⟨⟨rfl, ?_⟩, ?_⟩
    · show addN 0 _ + subN xs.length _ ≤ C.length
      rw [addN_eq, subN_eq]; omega
    conv => whnf
    refine ⟨k2, rfl, by omega, ?_⟩
    conv => whnf
    refine ⟨Nat.zero_le _, ?_⟩
    conv => whnf
    repeat' (first | exact trivial | exact rfl | refine And.intro ?_ ?_ | ((conv => whnf); first | exact trivial | exact rfl | refine And.intro ?_ ?_ | omega))
    · rw [subN_eq]; omega
    · rw [addN_eq, Nat.zero_add]; exact congrArg aLink he


abbrev hxPut (bs : List (Int × Int)) (ls : List Lnk) : Heap := [(1, false, .cells [.p 2 0 0 0]), (2, false, netC 3 4 bs.length ls.length), (3, false, .arr (aSpan bs)), (4, false, .arr (aLink ls))]

theorem put1_t (bs : List (Int × Int)) (ls : List Lnk) (l : Lnk) (hn : bs.length ≤ 1000000) : Triple Try.prog 110 [svL l, .c (.p 1 0 0 0)] (hxPut bs ls) 5 (bv (!properF l bs.length)) [] := by
  refine triple_of tB_ok Try.func110 rfl Try.call110 rfl ?_
  intro ρ w hH
  conv => whnf
  refine call_step (properF_t l bs.length hn) rfl rfl ?_
  conv => whnf
  refine ⟨(by repeat' (first | exact trivial | exact rfl | refine And.intro ?_ ?_ | ((conv => whnf); first | exact trivial | exact rfl | refine And.intro ?_ ?_ | omega))), (by repeat' (first | exact trivial | exact rfl | refine And.intro ?_ ?_ | ((conv => whnf); first | exact trivial | exact rfl | refine And.intro ?_ ?_ | omega))), ?_⟩
  conv => whnf
  repeat' (first | exact trivial | exact rfl | refine And.intro ?_ ?_ | ((conv => whnf); first | exact trivial | exact rfl | refine And.intro ?_ ?_ | omega))

theorem indexPut_t
    (bs : List (Int × Int)) (ls : List Lnk) (hnn : bs.length ≤ 1000000)
    (xs : List Lnk) (hx : xs.length ≤ 100000) :
    Triple Try.prog 141 [.c (.s 0 0 xs.length 4), .c (.f 110 [1])]
      ((0, false, .arr (aLink xs)) :: hxPut bs ls)
      5 (iv .i64 (idxF (fun l : Lnk => !properF l bs.length) 0 xs)) [] := by
  refine triple_of tB_ok Try.func141 rfl Try.call141 rfl ?_
  intro ρ w hH
  conv => whnf
  refine loop_step tB_ok (G := Nat) 0 [] (fun i => [(8, iv .i64 i)]) (fun i => []) (fun i => i ≤ xs.length ∧ ∀ x ∈ xs.take i, (fun l : Lnk => !properF l bs.length) x = false) (fun i => xs.length - i) ?_
  conv => whnf
  refine ⟨⟨0, ⟨Nat.zero_le _, by simp⟩, ?_⟩, ?_⟩
  · conv => whnf
    repeat' (first | exact trivial | exact rfl | refine And.intro ?_ ?_ | ((conv => whnf); first | exact trivial | exact rfl | refine And.intro ?_ ?_ | omega))
  intro i hi ρ1 t1 hρ1
  obtain ⟨hi, hn⟩ := hi
  conv => whnf
  refine ⟨fun hc => ?_, fun hc => ?_⟩
  · have hc : i < xs.length := by simpa using hc
    have hlt := hc
    conv => whnf
    refine ⟨i, rfl, hc, hc, ?_⟩
    conv => whnf
    refine call_step (put1_t bs ls xs[i] hnn) rfl rfl ?_
    conv => whnf
    refine ⟨(by repeat' (first | exact trivial | exact rfl | refine And.intro ?_ ?_ | ((conv => whnf); first | exact trivial | exact rfl | refine And.intro ?_ ?_ | omega))), (by repeat' (first | exact trivial | exact rfl | refine And.intro ?_ ?_ | ((conv => whnf); first | exact trivial | exact rfl | refine And.intro ?_ ?_ | omega))), ?_⟩
    conv => whnf
    refine ⟨fun hc => ?_, fun hc => ?_⟩
    · conv => whnf
      refine ⟨?_, trivial⟩
      show (i : Int) = idxF (fun l : Lnk => !properF l bs.length) 0 xs
      rw [idxF_at (k := i) hlt hn hc, Nat.zero_add]
    · conv => whnf
      refine ⟨_, wrapId ⟨by omega, by omega⟩, ?_⟩
      refine ⟨i + 1, ⟨by omega, ?_⟩, by show xs.length - (i + 1) < xs.length - i; omega, ?_⟩
      · intro x hxx
        rw [take_snoc hlt] at hxx
        rcases List.mem_append.1 hxx with hxx | hxx
        · exact hn x hxx
        · simp only [List.mem_singleton] at hxx; rw [hxx]; exact hc
      conv => whnf
      refine ⟨rfl, ?_⟩
      conv => whnf
      repeat' (first | exact trivial | exact rfl | refine And.intro ?_ ?_ | ((conv => whnf); first | exact trivial | exact rfl | refine And.intro ?_ ?_ | omega))
  · have hi2 : i = xs.length := by simp at hc; omega
    subst hi2
    rw [List.take_length] at hn
    conv => whnf
    refine ⟨?_, trivial⟩
    show (-1 : Int) = idxF (fun l : Lnk => !properF l bs.length) 0 xs
    rw [idxF_none hn]


theorem contains_t (bs : List (Int × Int)) (ls : List Lnk) (hnn : bs.length ≤ 1000000) (xs : List Lnk) (hx : xs.length ≤ 100000) :
    Triple Try.prog 109 [.c (.s 0 0 xs.length 4), .c (.f 110 [1])] ((0, false, .arr (aLink xs)) :: hxPut bs ls) 5 (bv (!xs.all fun l => properF l bs.length)) [] := by
  refine triple_of tB_ok Try.func109 rfl Try.call109 rfl ?_
  intro ρ w hH
  conv => whnf
  refine call_step (indexPut_t bs ls hnn xs hx) rfl rfl ?_
  conv => whnf
  refine ⟨(by repeat' (first | exact trivial | exact rfl | refine And.intro ?_ ?_ | ((conv => whnf); first | exact trivial | exact rfl | refine And.intro ?_ ?_ | omega))), (by repeat' (first | exact trivial | exact rfl | refine And.intro ?_ ?_ | ((conv => whnf); first | exact trivial | exact rfl | refine And.intro ?_ ?_ | omega))), ?_⟩
  conv => whnf
  refine ⟨?_, trivial⟩
  show decide (0 ≤ idxF (fun l : Lnk => !properF l bs.length) 0 xs) = !xs.all fun l => properF l bs.length
  rcases idxF_cases (fun l : Lnk => !properF l bs.length) xs with ⟨h1, h2⟩ | ⟨k, hk, h1, h2, h3⟩
  · rw [h1]
    have : (xs.all fun l => properF l bs.length) = true := List.all_eq_true.2 fun l hl => by have := h2 l hl; simpa using this
    rw [this]; rfl
  · rw [h1, decide_eq_true (by omega)]
    have h3 : properF xs[k] bs.length = false := by simpa using h3
    have : (xs.all fun l => properF l bs.length) = false := by
      rw [← Bool.not_eq_true, List.all_eq_true]
      intro hh
      have := hh _ (List.getElem_mem hk)
      rw [h3] at this; cases this
    rw [this]; rfl

theorem netLinks_t (bs : List (Int × Int)) (ls : List Lnk) (hl : ls.length ≤ 1000000) : Triple Try.prog 68 [.c (.p 0 0 0 0)] [(0, false, netC 1 2 bs.length ls.length), (1, false, .arr (aSpan bs)), (2, false, .arr (aLink ls))] 3 (.c (.s 3 0 ls.length 4)) [(3, true, .arr (aLink ls))] := by
  refine triple_of tB_ok Try.func68 rfl Try.call68 rfl ?_
  intro ρ w hH
  conv => whnf
  refine call_step (cloneLink_t ls hl) rfl rfl ?_
  conv => whnf
  refine ⟨(by repeat' (first | exact trivial | exact rfl | refine And.intro ?_ ?_ | ((conv => whnf); first | exact trivial | exact rfl | refine And.intro ?_ ?_ | omega))), (by repeat' (first | exact trivial | exact rfl | refine And.intro ?_ ?_ | ((conv => whnf); first | exact trivial | exact rfl | refine And.intro ?_ ?_ | omega))), ?_⟩
  conv => whnf
  repeat' (first | exact trivial | exact rfl | refine And.intro ?_ ?_ | ((conv => whnf); first | exact trivial | exact rfl | refine And.intro ?_ ?_ | omega))

/-- What Take answers. -/
def takeF (ls : List Lnk) (id : Int) : Int := if id = 0 then 1 else if (withoutF ls id).length = ls.length then 5 else 0

theorem takeErr_t (bs : List (Int × Int)) (ls : List Lnk) (id : Int) (hl : ls.length ≤ 100000) (h : takeF ls id ≠ 0) :
    Triple Try.prog 66 [.c (.p 0 0 0 0), iv .i64 id] [(0, true, netC 1 2 bs.length ls.length), (1, false, .arr (aSpan bs)), (2, false, .arr (aLink ls))] 3 (iv .i64 (takeF ls id)) [(0, true, netC 1 2 bs.length ls.length)] := by
  refine triple_of tB_ok Try.func66 rfl Try.call66 rfl ?_
  intro ρ w hH
  conv => whnf
  refine ⟨fun hc => ?_, fun hc => ?_⟩
  · have h0 : id = 0 := by simpa using (show (id == 0) = true from hc)
    have e : takeF ls id = 1 := by unfold takeF; rw [if_pos h0]
    rw [e]
    conv => whnf
    repeat' (first | exact trivial | exact rfl | refine And.intro ?_ ?_ | ((conv => whnf); first | exact trivial | exact rfl | refine And.intro ?_ ?_ | omega))
  have h0 : id ≠ 0 := by simpa using (show (id == 0) = false from hc)
  have hlen : (withoutF ls id).length = ls.length := by
    unfold takeF at h
    rw [if_neg h0] at h
    by_cases hh : (withoutF ls id).length = ls.length
    · exact hh
    · rw [if_neg hh] at h; exact absurd rfl h
  have e : takeF ls id = 5 := by unfold takeF; rw [if_neg h0, if_pos hlen]
  have hfl : (ls.filter fun x => !(x.i == id)) = withoutF ls id := rfl
  conv => whnf
  refine call_step (cloneLink_t ls (by omega)) rfl rfl ?_
  conv => whnf
  refine ⟨(by repeat' (first | exact trivial | exact rfl | refine And.intro ?_ ?_ | ((conv => whnf); first | exact trivial | exact rfl | refine And.intro ?_ ?_ | omega))), (by repeat' (first | exact trivial | exact rfl | refine And.intro ?_ ?_ | ((conv => whnf); first | exact trivial | exact rfl | refine And.intro ?_ ?_ | omega))), ?_⟩
  conv => whnf
  refine call_step (deleteTake_t id ls (by omega)) rfl rfl ?_
  conv => whnf
  refine ⟨(by repeat' (first | exact trivial | exact rfl | refine And.intro ?_ ?_ | ((conv => whnf); first | exact trivial | exact rfl | refine And.intro ?_ ?_ | omega))), (by repeat' (first | exact trivial | exact rfl | refine And.intro ?_ ?_ | ((conv => whnf); first | exact trivial | exact rfl | refine And.intro ?_ ?_ | omega))), ?_⟩
  conv => whnf
  rw [hfl, e]
  refine ⟨fun hc => ?_, fun hc => ?_⟩
  · conv => whnf
    repeat' (first | exact trivial | exact rfl | refine And.intro ?_ ?_ | ((conv => whnf); first | exact trivial | exact rfl | refine And.intro ?_ ?_ | omega))
  · exact absurd (show (((withoutF ls id).length : Int) == ls.length) = false from hc) (by rw [hlen]; simp)

theorem takeOk_t (bs : List (Int × Int)) (ls : List Lnk) (id : Int) (hl : ls.length ≤ 100000) (h : takeF ls id = 0) :
    Triple Try.prog 66 [.c (.p 0 0 0 0), iv .i64 id] [(0, true, netC 1 2 bs.length ls.length), (1, false, .arr (aSpan bs)), (2, false, .arr (aLink ls))] 3 (iv .i64 0) [(0, true, netC 1 3 bs.length (withoutF ls id).length), (3, true, .arr (aLink (withoutF ls id)))] := by
  have h0 : id ≠ 0 := fun hh => by unfold takeF at h; rw [if_pos hh] at h; cases h
  have hlen : (withoutF ls id).length ≠ ls.length := fun hh => by unfold takeF at h; rw [if_neg h0, if_pos hh] at h; cases h
  have hfl : (ls.filter fun x => !(x.i == id)) = withoutF ls id := rfl
  refine triple_of tB_ok Try.func66 rfl Try.call66 rfl ?_
  intro ρ w hH
  conv => whnf
  refine ⟨fun hc => absurd (by simpa using (show (id == 0) = true from hc)) h0, fun hc => ?_⟩
  conv => whnf
  refine call_step (cloneLink_t ls (by omega)) rfl rfl ?_
  conv => whnf
  refine ⟨(by repeat' (first | exact trivial | exact rfl | refine And.intro ?_ ?_ | ((conv => whnf); first | exact trivial | exact rfl | refine And.intro ?_ ?_ | omega))), (by repeat' (first | exact trivial | exact rfl | refine And.intro ?_ ?_ | ((conv => whnf); first | exact trivial | exact rfl | refine And.intro ?_ ?_ | omega))), ?_⟩
  conv => whnf
  refine call_step (deleteTake_t id ls (by omega)) rfl rfl ?_
  conv => whnf
  refine ⟨(by repeat' (first | exact trivial | exact rfl | refine And.intro ?_ ?_ | ((conv => whnf); first | exact trivial | exact rfl | refine And.intro ?_ ?_ | omega))), (by repeat' (first | exact trivial | exact rfl | refine And.intro ?_ ?_ | ((conv => whnf); first | exact trivial | exact rfl | refine And.intro ?_ ?_ | omega))), ?_⟩
  conv => whnf
  rw [hfl]
  refine ⟨fun hc => ?_, fun hc => ?_⟩
  · have := (by simpa using (show (((withoutF ls id).length : Int) == ls.length) = true from hc) : ((withoutF ls id).length : Int) = ls.length)
    omega
  conv => whnf
  repeat' (first | exact trivial | exact rfl | refine And.intro ?_ ?_ | ((conv => whnf); first | exact trivial | exact rfl | refine And.intro ?_ ?_ | omega))

end Go.Proofs

