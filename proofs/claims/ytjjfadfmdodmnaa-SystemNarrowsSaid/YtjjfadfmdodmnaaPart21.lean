/-
  A part of the proof that a law of dryweightlaw03 answers true: lemmas of a symbolic walk, plain functions, or contracts of the functions walked (Xb, Xc). Conditions: none.
-/
import Derived.Test.YtjjfadfmdodmnaaPart20
set_option maxRecDepth 100000
set_option linter.unusedVariables false
set_option linter.unusedSimpArgs false
namespace Go.Proofs
open Go.Sx

def headI (cyc : List Lnk) : Int := (cyc.getD 0 ⟨0, 0, 0, 0⟩).f

def checkCycF (bs : List (Int × Int)) (ls cyc : List Lnk) : Int :=
  if checkF bs ls ≠ 0 then checkF bs ls else if 2000 < cyc.length then 2 else if cyc.length = 0 then 8 else
  if (chainR (allF bs ls) cyc (headI cyc) (headI cyc)).2 = false ∨ 0 ≤ (chainR (allF bs ls) cyc (headI cyc) (headI cyc)).1 then 8 else 0

theorem refCheckCycle_t (bs : List (Int × Int)) (ls cyc : List Lnk) (hb : bs.length ≤ 1000000) (hl : ls.length ≤ 1000000) (hcl : cyc.length ≤ 1000000) :
    Triple Try.prog 42 [sysA bs.length ls.length, .c (.s 2 0 cyc.length 4)] ((2, false, .arr (aLink cyc)) :: sysH bs ls) 3 (iv .i64 (checkCycF bs ls cyc)) [] := by
  have hF : checkCycF bs ls cyc = if checkF bs ls ≠ 0 then checkF bs ls else if 2000 < cyc.length then 2 else if cyc.length = 0 then 8 else
    if (chainR (allF bs ls) cyc (headI cyc) (headI cyc)).2 = false ∨ 0 ≤ (chainR (allF bs ls) cyc (headI cyc) (headI cyc)).1 then 8 else 0 := rfl
  generalize checkCycF bs ls cyc = R at *
  refine triple_of tB_ok Try.func42 rfl Try.call42 rfl ?_
  intro ρ w hH
  conv => whnf
  refine call_step (refCheck_t bs ls hb hl) rfl rfl ?_
  conv => whnf
  refine ⟨(by repeat' (first | exact trivial | exact rfl | refine And.intro ?_ ?_ | ((conv => whnf); first | exact trivial | exact rfl | refine And.intro ?_ ?_ | omega))), (by repeat' (first | exact trivial | exact rfl | refine And.intro ?_ ?_ | ((conv => whnf); first | exact trivial | exact rfl | refine And.intro ?_ ?_ | omega))), ?_⟩
  conv => whnf
  by_cases hck : checkF bs ls = 0
  · rw [if_neg (by simpa using hck)] at hF
    have hs := checkF_ok.1 hck
    rw [hck]
    refine ⟨fun hc => absurd hc (by simp), fun hc => ?_⟩
    conv => whnf
    refine ⟨fun hc => ?_, fun hc => ?_⟩
    · have h3 : 2000 < cyc.length := by have := of_decide_eq_true (show decide ((2000 : Int) < cyc.length) = true from hc); omega
      rw [if_pos h3] at hF
      rw [hF]
      conv => whnf
      repeat' (first | exact trivial | exact rfl | refine And.intro ?_ ?_ | ((conv => whnf); first | exact trivial | exact rfl | refine And.intro ?_ ?_ | omega))
    have h3 : ¬ 2000 < cyc.length := by have := of_decide_eq_false (show decide ((2000 : Int) < cyc.length) = false from hc); omega
    rw [if_neg h3] at hF
    conv => whnf
    refine ⟨fun hc => ?_, fun hc => ?_⟩
    · have h4 : cyc.length = 0 := by have := (by simpa using (show ((cyc.length : Int) == 0) = true from hc) : (cyc.length : Int) = 0 ∨ cyc = []); rcases this with h | h <;> simp_all
      rw [if_pos h4] at hF
      rw [hF]
      conv => whnf
      repeat' (first | exact trivial | exact rfl | refine And.intro ?_ ?_ | ((conv => whnf); first | exact trivial | exact rfl | refine And.intro ?_ ?_ | omega))
    have h4 : 0 < cyc.length := by
      rcases Nat.eq_zero_or_pos cyc.length with h | h
      · rw [h] at hc; exact absurd hc (by simp)
      · exact h
    rw [if_neg (by omega)] at hF
    have h0 : cyc[0].f = headI cyc := by
      unfold headI
      rw [List.getD_eq_getElem?_getD, List.getElem?_eq_getElem h4]; rfl
    have hch := chained_t bs ls cyc (headI cyc) (headI cyc) hs (by omega)
    rw [← h0] at hch hF
    conv => whnf
    refine ⟨0, rfl, by omega, h4, ?_⟩
    conv => whnf
    refine ⟨0, rfl, by omega, h4, ?_⟩
    conv => whnf
    refine call_step hch rfl rfl ?_
    conv => whnf
    refine ⟨(by repeat' (first | exact trivial | exact rfl | refine And.intro ?_ ?_ | ((conv => whnf); first | exact trivial | exact rfl | refine And.intro ?_ ?_ | omega))), (by repeat' (first | exact trivial | exact rfl | refine And.intro ?_ ?_ | ((conv => whnf); first | exact trivial | exact rfl | refine And.intro ?_ ?_ | omega))), ?_⟩
    conv => whnf
    generalize chainR (allF bs ls) cyc cyc[0].f cyc[0].f = X at *
    obtain ⟨X1, X2⟩ := X
    refine ⟨fun hc => ?_, fun hc => ?_⟩
    · have h5 : X2 = false := by simpa using (show (!X2) = true from hc)
      rw [if_pos (.inl h5)] at hF
      rw [hF]
      conv => whnf
      repeat' (first | exact trivial | exact rfl | refine And.intro ?_ ?_ | ((conv => whnf); first | exact trivial | exact rfl | refine And.intro ?_ ?_ | omega))
    have h5 : X2 = true := by simpa using (show (!X2) = false from hc)
    conv => whnf
    refine ⟨fun hc => ?_, fun hc => ?_⟩
    · have h6 : 0 ≤ X1 := of_decide_eq_true (show decide (0 ≤ X1) = true from hc)
      rw [if_pos (.inr h6)] at hF
      rw [hF]
      conv => whnf
      repeat' (first | exact trivial | exact rfl | refine And.intro ?_ ?_ | ((conv => whnf); first | exact trivial | exact rfl | refine And.intro ?_ ?_ | omega))
    · have h6 : ¬ 0 ≤ X1 := of_decide_eq_false (show decide (0 ≤ X1) = false from hc)
      rw [if_neg (by simp only [h5]; rintro (h | h); cases h; exact h6 h)] at hF
      rw [hF]
      conv => whnf
      repeat' (first | exact trivial | exact rfl | refine And.intro ?_ ?_ | ((conv => whnf); first | exact trivial | exact rfl | refine And.intro ?_ ?_ | omega))
  · rw [if_pos (by simpa using hck)] at hF
    rw [hF]
    generalize checkF bs ls = c at *
    refine ⟨fun hcc => ?_, fun hcc => ?_⟩
    · conv => whnf
      repeat' (first | exact trivial | exact rfl | refine And.intro ?_ ?_ | ((conv => whnf); first | exact trivial | exact rfl | refine And.intro ?_ ?_ | omega))
    · exact absurd (by simpa using hcc) hck

theorem cycle_t (n : Nat) (arcs : List Lnk) (T : Tr) (v : Nat) (P kk : Nat → Nat) (M : Nat) (hn : n ≤ 1000) (ha : arcs.length ≤ 10000) (hl1 : T.sum.length = n + 1) (hl2 : T.there.length = n + 1) (hl3 : T.last.length = n + 1) (h : Cyc n arcs T v P kk M) :
    Triple Try.prog 136 [.c (.p 0 0 0 0), .agg [.s 2 0 (n + 1) 1, .s 3 0 (n + 1) 1, .s 4 0 (n + 1) 1], iv .i64 v]
      [(0, false, .cells [.v (.int .i64 n), .s 1 0 arcs.length 4]), (1, false, .arr (aLink arcs)), (2, false, .arr (aInt T.sum)), (3, false, .arr (aBool T.there)), (4, false, .arr (aInt T.last))] 5
      (.c (.s 5 0 (cycL n arcs kk M).reverse.length 4)) [(5, true, .arr (aLink (cycL n arcs kk M).reverse))] := by
  have hM := h.len
  have hM1 := h.pos
  have bef : ∀ m, Triple Try.prog 105 [.c (.p 0 0 0 0), .agg [.s 2 0 (n + 1) 1, .s 3 0 (n + 1) 1, .s 4 0 (n + 1) 1], iv .i64 (P m)]
      [(0, false, .cells [.v (.int .i64 n), .s 1 0 arcs.length 4]), (1, false, .arr (aLink arcs)), (2, false, .arr (aInt T.sum)), (3, false, .arr (aBool T.there)), (4, false, .arr (aInt T.last))] 5 (iv .i64 (P (m + 1))) [] := fun m =>
    before_t n arcs T.last (P m) (kk m) (P (m + 1)) T.sum T.there (n + 1) hn hl3 (h.lst m) (by have := befF_lt (h.bef m); omega) (h.bef m)
  have hP0 := h.start
  subst hP0
  refine triple_of tB_ok Try.func136 rfl Try.call136 rfl ?_
  intro ρ w hH
  conv => whnf
  refine ⟨(n : Int) + 1, wrapId (z := (n : Int) + 1) ⟨by omega, by omega⟩, ?_⟩
  conv => whnf
  refine loop_step tB_ok (G := Nat) 0 [] (fun m => [(14, iv .i64 m), (2, iv .i64 (P m))]) (fun _ => []) (fun m => m ≤ n + 1) (fun m => n + 1 - m) ?_
  conv => whnf
  refine ⟨⟨0, Nat.zero_le _, ?_⟩, ?_⟩
  · conv => whnf
    repeat' (first | exact trivial | exact rfl | refine And.intro ?_ ?_ | ((conv => whnf); first | exact trivial | exact rfl | refine And.intro ?_ ?_ | omega))
  intro m hm ρ1 t1 hρ1
  conv => whnf
  refine ⟨fun hc => ?_, fun hc => ?_⟩
  · have hlt : m < n + 1 := by have := of_decide_eq_true (show decide ((m : Int) < (n : Int) + 1) = true from hc); omega
    conv => whnf
    refine call_step (bef m) rfl rfl ?_
    conv => whnf
    refine ⟨(by repeat' (first | exact trivial | exact rfl | refine And.intro ?_ ?_ | ((conv => whnf); first | exact trivial | exact rfl | refine And.intro ?_ ?_ | omega))), (by repeat' (first | exact trivial | exact rfl | refine And.intro ?_ ?_ | ((conv => whnf); first | exact trivial | exact rfl | refine And.intro ?_ ?_ | omega))), ?_⟩
    conv => whnf
    refine ⟨(m : Int) + 1, wrapId (z := (m : Int) + 1) ⟨by omega, by omega⟩, ?_⟩
    refine ⟨m + 1, hlt, by show n + 1 - (m + 1) < n + 1 - m; omega, ?_⟩
    conv => whnf
    refine ⟨rfl, ?_⟩
    conv => whnf
    repeat' (first | exact trivial | exact rfl | refine And.intro ?_ ?_ | ((conv => whnf); first | exact trivial | exact rfl | refine And.intro ?_ ?_ | omega))
  have hme : m = n + 1 := by have := of_decide_eq_false (show decide ((m : Int) < (n : Int) + 1) = false from hc); omega
  subst hme
  conv => whnf
  refine loop_step tB_ok (G := Nat × List Lnk) 1 [] (fun g => [(8, iv .i64 (P (n + 1 + g.1))), (7, .c (.s 6 0 g.2.length 4))]) (fun g => [(6, true, .arr (aLink g.2))]) (fun g => g.1 < M ∧ g.2 = cycL n arcs kk g.1) (fun g => M - g.1) ?_
  conv => whnf
  refine ⟨⟨(0, []), ⟨hM1, rfl⟩, ?_⟩, ?_⟩
  · conv => whnf
    repeat' (first | exact trivial | exact rfl | refine And.intro ?_ ?_ | ((conv => whnf); first | exact trivial | exact rfl | refine And.intro ?_ ?_ | omega))
  rintro ⟨i, out⟩ ⟨hi, hout⟩ ρ2 t2 hρ2
  have hi : i < M := hi
  have hout : out = cycL n arcs kk i := hout
  have hol : out.length = i := by rw [hout]; simp [cycL]
  dsimp only
  have hle := h.le (n + 1 + i)
  have hla := h.lst (n + 1 + i)
  have hbe := bef (n + 1 + i)
  have hkl := befF_lt (h.bef (n + 1 + i))
  obtain ⟨hpl, hpe⟩ := List.getElem?_eq_some_iff.1 hla
  have hdiv : IntKind.i64.wrap (Int.tdiv T.last[P (n + 1 + i)] 2) = ((kk (n + 1 + i) / 2 : Nat) : Int) := by rw [hpe]; exact wrapId (z := ((kk (n + 1 + i) / 2 : Nat) : Int)) ⟨by omega, by omega⟩
  have hst := cycL_succ n arcs kk i
  rw [← hout, List.getD_eq_getElem?_getD, List.getElem?_eq_getElem hkl, Option.getD_some] at hst
  have hper := h.per
  have hlow := h.low (i + 1) (by omega)
  have hnext : P (n + 1 + i + 1) = P (n + 1 + (i + 1)) := rfl
  have hfin : i + 1 = M → cycL n arcs kk M = cycL n arcs kk (i + 1) := fun he => by rw [he]
  obtain ⟨j, hj⟩ : ∃ j, j = kk (n + 1 + i) / 2 := ⟨_, rfl⟩
  simp only [← hj] at hdiv hkl hst
  clear hla
  conv => whnf
  refine ⟨P (n + 1 + i), rfl, by omega, hpl, ?_⟩
  conv => whnf
  refine ⟨by decide, (j : Int), hdiv, ?_⟩
  conv => whnf
  refine ⟨j, rfl, hkl, hkl, ?_⟩
  conv => whnf
  refine bs_step tB_ok (aLink [arcs[j]]) rfl rfl ?_
  conv => whnf
  refine ⟨⟨rfl, ⟨rfl, rfl, rfl, rfl, trivial⟩⟩, ?_⟩
  conv => whnf
  refine app_step tB_ok (aLink out) [arcs[j]] (fun _ => rfl) rfl rfl rfl rfl ?_
  conv => whnf
  refine ⟨⟨rfl, rfl, Nat.le_refl _, Nat.le_refl _, by show (out.length + 1) * 33 ≤ _; omega⟩, ?_⟩
  conv => whnf
  refine call_step hbe rfl rfl ?_
  conv => whnf
  refine ⟨(by repeat' (first | exact trivial | exact rfl | refine And.intro ?_ ?_ | ((conv => whnf); first | exact trivial | exact rfl | refine And.intro ?_ ?_ | omega))), (by repeat' (first | exact trivial | exact rfl | refine And.intro ?_ ?_ | ((conv => whnf); first | exact trivial | exact rfl | refine And.intro ?_ ?_ | omega))), ?_⟩
  conv => whnf
  refine ⟨fun hc => ?_, fun hc => ?_⟩
  · have he : P (n + 1 + i + 1) = P (n + 1) := by
      have := (show ((P (n + 1 + i + 1) : Int) == ((P (n + 1) : Nat) : Int)) = true from hc)
      simp at this; omega
    have hie : i + 1 = M := by
      rcases Nat.lt_or_ge (i + 1) M with hlt | hge
      · exact absurd he (hlow hlt)
      · omega
    have hfin := hfin hie
    rw [hst] at hfin
    have hrv : Triple Try.prog 106 [.c (.s 0 0 (out.length + 1) 4)] [(0, true, .arr (aLink (List.take out.length out ++ List.take 1 (List.drop 0 [arcs[j]]))))] 1 (.tup []) [(0, true, .arr (aLink (out ++ [arcs[j]]).reverse))] := by
      have h1 : (out ++ [arcs[j]]).length = out.length + 1 := by simp
      have := reverse_t (out ++ [arcs[j]]) (by omega)
      rw [app1]
      rwa [h1] at this
    conv => whnf
    rw [hfin]
    refine call_step hrv rfl rfl ?_
    conv => whnf
    refine ⟨(by repeat' (first | exact trivial | exact rfl | refine And.intro ?_ ?_ | ((conv => whnf); first | exact trivial | exact rfl | refine And.intro ?_ ?_ | omega))), (by repeat' (first | exact trivial | exact rfl | refine And.intro ?_ ?_ | ((conv => whnf); first | exact trivial | exact rfl | refine And.intro ?_ ?_ | omega))), ?_⟩
    conv => whnf
    repeat' (first | exact trivial | exact rfl | refine And.intro ?_ ?_ | ((conv => whnf); first | exact trivial | exact rfl | refine And.intro ?_ ?_ | omega))
    all_goals simp
  · have he : P (n + 1 + i + 1) ≠ P (n + 1) := by
      have := (show ((P (n + 1 + i + 1) : Int) == ((P (n + 1) : Nat) : Int)) = false from hc)
      simp at this; omega
    have hlt : i + 1 < M := by
      rcases Nat.lt_or_ge (i + 1) M with hlt | hge
      · exact hlt
      · exfalso
        have : i + 1 = M := by omega
        rw [hnext, this] at he
        exact he hper
    conv => whnf
    refine ⟨(i + 1, out ++ [arcs[j]]), ⟨hlt, hst.symm⟩, by show M - (i + 1) < M - i; omega, ?_⟩
    conv => whnf
    refine ⟨rfl, ?_⟩
    conv => whnf
    repeat' (first | exact trivial | exact rfl | refine And.intro ?_ ?_ | ((conv => whnf); first | exact trivial | exact rfl | refine And.intro ?_ ?_ | omega))
    all_goals first | exact (congrArg aLink app1 : _) | simp

theorem clash_t (n : Nat) (arcs : List Lnk) (v : Nat) (P kk : Nat → Nat) (M : Nat) (hn : n ≤ 1000) (hl : arcs.length ≤ 10000) (hok : ∀ l ∈ arcs, ArcOK n l) (hch : (shortF n noRev arcs n).2 = ((v : Nat) : Int)) (h : Cyc n arcs (shortF n noRev arcs n).1 v P kk M) :
    Triple Try.prog 96 [.c (.p 0 0 0 0)] (graphH n arcs) 2 (.tup [.inl (.s 2 0 (cycL n arcs kk M).reverse.length 4), .inl (.b true)]) [(2, true, .arr (aLink (cycL n arcs kk M).reverse))] := by
  have hlen := shortF_len n noRev arcs n hok
  obtain ⟨hl1, hl2, hl3⟩ := hlen
  refine triple_of tB_ok Try.func96 rfl Try.call96 rfl ?_
  intro ρ w hH
  conv => whnf
  refine call_step (plain_t n arcs n hn hl hok (Nat.le_refl _)) rfl rfl ?_
  conv => whnf
  refine ⟨(by repeat' (first | exact trivial | exact rfl | refine And.intro ?_ ?_ | ((conv => whnf); first | exact trivial | exact rfl | refine And.intro ?_ ?_ | omega))), (by repeat' (first | exact trivial | exact rfl | refine And.intro ?_ ?_ | ((conv => whnf); first | exact trivial | exact rfl | refine And.intro ?_ ?_ | omega))), ?_⟩
  conv => whnf
  rw [hch]
  generalize (shortF n noRev arcs n).1 = T at *
  refine ⟨fun hc => ?_, fun hc => ?_⟩
  · have := (show ((v : Int) == -1) = true from hc)
    simp at this
  conv => whnf
  refine call_step (cycle_t n arcs T v P kk M hn hl hl1 hl2 hl3 h) rfl rfl ?_
  conv => whnf
  refine ⟨(by repeat' (first | exact trivial | exact rfl | refine And.intro ?_ ?_ | ((conv => whnf); first | exact trivial | exact rfl | refine And.intro ?_ ?_ | omega))), (by repeat' (first | exact trivial | exact rfl | refine And.intro ?_ ?_ | ((conv => whnf); first | exact trivial | exact rfl | refine And.intro ?_ ?_ | omega))), ?_⟩
  conv => whnf
  repeat' (first | exact trivial | exact rfl | refine And.intro ?_ ?_ | ((conv => whnf); first | exact trivial | exact rfl | refine And.intro ?_ ?_ | omega))

/-- Whether a cycle is found in a system without the links of a reading. -/
def clashB (bs : List (Int × Int)) (ls : List Lnk) (k : Int) : Bool := decide ((shortF bs.length noRev (graphF bs ls k) bs.length).2 ≠ -1)

theorem susp1_t (bs : List (Int × Int)) (ls : List Lnk) (id : Int) (hs : SysOK bs ls) :
    Triple Try.prog 97 [iv .i64 id, .c (.p 1 0 0 0)]
      [(1, false, .cells [.s 2 0 bs.length 2, .s 3 0 ls.length 4]), (2, false, .arr (aSpan bs)), (3, false, .arr (aLink ls))] 4
      (bv (clashB bs ls id)) [] := by
  have hnb := hs.nb
  have hnl := hs.nl
  have hgl := graphF_len hs id
  by_cases h : (shortF bs.length noRev (graphF bs ls id) bs.length).2 = -1
  · have e : clashB bs ls id = false := decide_eq_false (by simp [h])
    rw [e]
    refine triple_of tB_ok Try.func97 rfl Try.call97 rfl ?_
    intro ρ w hH
    conv => whnf
    refine call_step (graphOf_t bs ls id (by omega) hs.boxB (by omega)) rfl rfl ?_
    conv => whnf
    refine ⟨(by repeat' (first | exact trivial | exact rfl | refine And.intro ?_ ?_ | ((conv => whnf); first | exact trivial | exact rfl | refine And.intro ?_ ?_ | omega))), (by repeat' (first | exact trivial | exact rfl | refine And.intro ?_ ?_ | ((conv => whnf); first | exact trivial | exact rfl | refine And.intro ?_ ?_ | omega))), ?_⟩
    conv => whnf
    refine call_step (clashNone_t bs.length (graphF bs ls id) (by omega) (by omega) (graphF_ok hs id) h) rfl rfl ?_
    conv => whnf
    refine ⟨(by repeat' (first | exact trivial | exact rfl | refine And.intro ?_ ?_ | ((conv => whnf); first | exact trivial | exact rfl | refine And.intro ?_ ?_ | omega))), (by repeat' (first | exact trivial | exact rfl | refine And.intro ?_ ?_ | ((conv => whnf); first | exact trivial | exact rfl | refine And.intro ?_ ?_ | omega))), ?_⟩
    conv => whnf
    repeat' (first | exact trivial | exact rfl | refine And.intro ?_ ?_ | ((conv => whnf); first | exact trivial | exact rfl | refine And.intro ?_ ?_ | omega))
  · have e : clashB bs ls id = true := decide_eq_true h
    obtain ⟨v, P, kk, M, h1, h2, h3⟩ := cyc_of (graphF_ok hs id) (Nat.le_refl _) h
    rw [e]
    refine triple_of tB_ok Try.func97 rfl Try.call97 rfl ?_
    intro ρ w hH
    conv => whnf
    refine call_step (graphOf_t bs ls id (by omega) hs.boxB (by omega)) rfl rfl ?_
    conv => whnf
    refine ⟨(by repeat' (first | exact trivial | exact rfl | refine And.intro ?_ ?_ | ((conv => whnf); first | exact trivial | exact rfl | refine And.intro ?_ ?_ | omega))), (by repeat' (first | exact trivial | exact rfl | refine And.intro ?_ ?_ | ((conv => whnf); first | exact trivial | exact rfl | refine And.intro ?_ ?_ | omega))), ?_⟩
    conv => whnf
    refine call_step (clash_t bs.length (graphF bs ls id) v P kk M (by omega) (by omega) (graphF_ok hs id) h1 h3) rfl rfl ?_
    conv => whnf
    refine ⟨(by repeat' (first | exact trivial | exact rfl | refine And.intro ?_ ?_ | ((conv => whnf); first | exact trivial | exact rfl | refine And.intro ?_ ?_ | omega))), (by repeat' (first | exact trivial | exact rfl | refine And.intro ?_ ?_ | ((conv => whnf); first | exact trivial | exact rfl | refine And.intro ?_ ?_ | omega))), ?_⟩
    conv => whnf
    repeat' (first | exact trivial | exact rfl | refine And.intro ?_ ?_ | ((conv => whnf); first | exact trivial | exact rfl | refine And.intro ?_ ?_ | omega))

theorem conflictYes_t (bs : List (Int × Int)) (ls : List Lnk) (v : Nat) (P kk : Nat → Nat) (M : Nat) (hs : SysOK bs ls) (hch : (shortF bs.length noRev (graphF bs ls 0) bs.length).2 = ((v : Nat) : Int)) (h : Cyc bs.length (graphF bs ls 0) (shortF bs.length noRev (graphF bs ls 0) bs.length).1 v P kk M) :
    Triple Try.prog 36 [sysA bs.length ls.length] (sysH bs ls) 2 (.tup [.inl (.s 2 0 (cycL bs.length (graphF bs ls 0) kk M).reverse.length 4), .inl (.b true), .inl (.v (.int .i64 0))]) [(2, true, .arr (aLink (cycL bs.length (graphF bs ls 0) kk M).reverse))] := by
  have hnb := hs.nb
  have hnl := hs.nl
  have hgl := graphF_len hs 0
  refine triple_of tB_ok Try.func36 rfl Try.call36 rfl ?_
  intro ρ w hH
  conv => whnf
  refine call_step (check_t bs ls (by omega) (by omega)) rfl rfl ?_
  conv => whnf
  refine ⟨(by repeat' (first | exact trivial | exact rfl | refine And.intro ?_ ?_ | ((conv => whnf); first | exact trivial | exact rfl | refine And.intro ?_ ?_ | omega))), (by repeat' (first | exact trivial | exact rfl | refine And.intro ?_ ?_ | ((conv => whnf); first | exact trivial | exact rfl | refine And.intro ?_ ?_ | omega))), ?_⟩
  conv => whnf
  rw [checkF_ok.2 hs]
  refine ⟨fun hc => absurd hc (by simp), fun hc => ?_⟩
  conv => whnf
  refine call_step (graphOf_t bs ls 0 (by omega) hs.boxB (by omega)) rfl rfl ?_
  conv => whnf
  refine ⟨(by repeat' (first | exact trivial | exact rfl | refine And.intro ?_ ?_ | ((conv => whnf); first | exact trivial | exact rfl | refine And.intro ?_ ?_ | omega))), (by repeat' (first | exact trivial | exact rfl | refine And.intro ?_ ?_ | ((conv => whnf); first | exact trivial | exact rfl | refine And.intro ?_ ?_ | omega))), ?_⟩
  conv => whnf
  refine call_step (clash_t bs.length (graphF bs ls 0) v P kk M (by omega) (by omega) (graphF_ok hs 0) hch h) rfl rfl ?_
  conv => whnf
  refine ⟨(by repeat' (first | exact trivial | exact rfl | refine And.intro ?_ ?_ | ((conv => whnf); first | exact trivial | exact rfl | refine And.intro ?_ ?_ | omega))), (by repeat' (first | exact trivial | exact rfl | refine And.intro ?_ ?_ | ((conv => whnf); first | exact trivial | exact rfl | refine And.intro ?_ ?_ | omega))), ?_⟩
  conv => whnf
  repeat' (first | exact trivial | exact rfl | refine And.intro ?_ ?_ | ((conv => whnf); first | exact trivial | exact rfl | refine And.intro ?_ ?_ | omega))

theorem conflictErr_t (bs : List (Int × Int)) (ls : List Lnk) (hb : bs.length ≤ 1000000) (hl : ls.length ≤ 1000000) (hc : checkF bs ls ≠ 0) :
    Triple Try.prog 36 [sysA bs.length ls.length] (sysH bs ls) 2 (.tup [.inl (.v (.slice none 0 0)), .inl (.b false), .inl (.v (.int .i64 (checkF bs ls)))]) [] := by
  refine triple_of tB_ok Try.func36 rfl Try.call36 rfl ?_
  intro ρ w hH
  conv => whnf
  refine call_step (check_t bs ls hb hl) rfl rfl ?_
  conv => whnf
  refine ⟨(by repeat' (first | exact trivial | exact rfl | refine And.intro ?_ ?_ | ((conv => whnf); first | exact trivial | exact rfl | refine And.intro ?_ ?_ | omega))), (by repeat' (first | exact trivial | exact rfl | refine And.intro ?_ ?_ | ((conv => whnf); first | exact trivial | exact rfl | refine And.intro ?_ ?_ | omega))), ?_⟩
  conv => whnf
  generalize checkF bs ls = c at *
  refine ⟨fun hcc => ?_, fun hcc => ?_⟩
  · conv => whnf
    repeat' (first | exact trivial | exact rfl | refine And.intro ?_ ?_ | ((conv => whnf); first | exact trivial | exact rfl | refine And.intro ?_ ?_ | omega))
  · exact absurd (by simpa using hcc) hc

end Go.Proofs

namespace Go.Proofs
open Go.Sx

abbrev hxSusp (bs : List (Int × Int)) (ls : List Lnk) : Heap := [(1, false, .cells [.s 2 0 bs.length 2, .s 3 0 ls.length 4]), (2, false, .arr (aSpan bs)), (3, false, .arr (aLink ls))]
theorem indexSusp_t
    (bs : List (Int × Int)) (ls : List Lnk) (hs : SysOK bs ls)
    (xs : List Int) (hx : xs.length ≤ 100000) :
    Triple Try.prog 128 [.c (.s 0 0 xs.length 1), .c (.f 97 [1])]
      ((0, false, .arr (aInt xs)) :: hxSusp bs ls)
      4 (iv .i64 (idxF (fun id => clashB bs ls id) 0 xs)) [] := by
  refine triple_of tB_ok Try.func128 rfl Try.call128 rfl ?_
  intro ρ w hH
  conv => whnf
  refine loop_step tB_ok (G := Nat) 0 [] (fun i => [(8, iv .i64 i)]) (fun i => []) (fun i => i ≤ xs.length ∧ ∀ x ∈ xs.take i, (fun id => clashB bs ls id) x = false) (fun i => xs.length - i) ?_
  conv => whnf
  refine ⟨⟨0, ⟨Nat.zero_le _, by simp⟩, ?_⟩, ?_⟩
  · conv => whnf
    repeat' (first | exact trivial | exact rfl | refine And.intro ?_ ?_ | ((conv => whnf); first | exact trivial | exact rfl | refine And.intro ?_ ?_ | omega))
  intro i hi ρ1 t1 hρ1
  obtain ⟨hi, hn⟩ := hi
  conv => whnf
  refine ⟨fun hc => ?_, fun hc => ?_⟩
  · have hc : i < xs.length := by simpa using hc
    have hlt := hc
    conv => whnf
    refine ⟨i, rfl, hc, hc, ?_⟩
    conv => whnf
    refine call_step (susp1_t bs ls xs[i] hs) rfl rfl ?_
    conv => whnf
    refine ⟨(by repeat' (first | exact trivial | exact rfl | refine And.intro ?_ ?_ | ((conv => whnf); first | exact trivial | exact rfl | refine And.intro ?_ ?_ | omega))), (by repeat' (first | exact trivial | exact rfl | refine And.intro ?_ ?_ | ((conv => whnf); first | exact trivial | exact rfl | refine And.intro ?_ ?_ | omega))), ?_⟩
    conv => whnf
    refine ⟨fun hc => ?_, fun hc => ?_⟩
    · conv => whnf
      refine ⟨?_, trivial⟩
      show (i : Int) = idxF (fun id => clashB bs ls id) 0 xs
      rw [idxF_at (k := i) hlt hn hc, Nat.zero_add]
    · conv => whnf
      refine ⟨_, wrapId ⟨by omega, by omega⟩, ?_⟩
      refine ⟨i + 1, ⟨by omega, ?_⟩, by show xs.length - (i + 1) < xs.length - i; omega, ?_⟩
      · intro x hxx
        rw [take_snoc hlt] at hxx
        rcases List.mem_append.1 hxx with hxx | hxx
        · exact hn x hxx
        · simp only [List.mem_singleton] at hxx; rw [hxx]; exact hc
      conv => whnf
      refine ⟨rfl, ?_⟩
      conv => whnf
      repeat' (first | exact trivial | exact rfl | refine And.intro ?_ ?_ | ((conv => whnf); first | exact trivial | exact rfl | refine And.intro ?_ ?_ | omega))
  · have hi2 : i = xs.length := by simp at hc; omega
    subst hi2
    rw [List.take_length] at hn
    conv => whnf
    refine ⟨?_, trivial⟩
    show (-1 : Int) = idxF (fun id => clashB bs ls id) 0 xs
    rw [idxF_none hn]

theorem deleteSusp_t
    (bs : List (Int × Int)) (ls : List Lnk) (hs : SysOK bs ls)
    (xs : List Int) (hx : xs.length ≤ 100000) :
    Triple Try.prog 84 [.c (.s 0 0 xs.length 1), .c (.f 97 [1])]
      ((0, true, .arr (aInt xs)) :: hxSusp bs ls)
      4 (.c (.s 0 0 (xs.filter fun x => !(fun id => clashB bs ls id) x).length 1)) [(0, true, .arr (aInt (xs.filter fun x => !(fun id => clashB bs ls id) x)))] := by
  refine triple_of tB_ok Try.func84 rfl Try.call84 rfl ?_
  intro ρ w hH
  conv => whnf
  refine call_step (indexSusp_t bs ls hs xs hx) rfl rfl ?_
  conv => whnf
  refine ⟨(by repeat' (first | exact trivial | exact rfl | refine And.intro ?_ ?_ | ((conv => whnf); first | exact trivial | exact rfl | refine And.intro ?_ ?_ | omega))), (by repeat' (first | exact trivial | exact rfl | refine And.intro ?_ ?_ | ((conv => whnf); first | exact trivial | exact rfl | refine And.intro ?_ ?_ | omega))), ?_⟩
  generalize hp : (fun id => clashB bs ls id) = p
  have hdel : ∀ x, (fun id => clashB bs ls id) x = p x := fun x => by rw [hp]
  rcases idxF_cases p xs with ⟨hi, hn⟩ | ⟨k, hk, hi, hn, hpk⟩
  · rw [hi]
    conv => whnf
    refine ⟨fun hc => ?_, fun hc => ?_⟩
    · conv => whnf
      have e : (xs.filter fun x => !p x) = xs := List.filter_eq_self.2 fun x hx => by rw [hn x hx]; rfl
      rw [e]
      repeat' (first | exact trivial | exact rfl | refine And.intro ?_ ?_ | ((conv => whnf); first | exact trivial | exact rfl | refine And.intro ?_ ?_ | omega))
    · simp at hc
  rw [hi]
  conv => whnf
  refine ⟨fun hc => ?_, fun hc => ?_⟩
  · exact absurd hc (by simp)
  conv => whnf
  refine ⟨_, wrapId ⟨by omega, by omega⟩, ?_⟩
  have hst := delC_start hk hn hpk
  have hkl : (xs.take k).length = k := by simp; omega
  refine loop_step tB_ok (G := Nat × Nat × List Int) 0 [] (fun g => [(6, iv .i64 g.1), (5, iv .i64 g.2.1)]) (fun g => [(0, true, .arr (aInt g.2.2))]) (fun g => (k < g.1 ∧ g.1 ≤ xs.length ∧ g.2.1 < g.1) ∧ g.2.1 = (delL p xs g.1).length ∧ g.2.2 = delC p xs g.1) (fun g => xs.length - g.1) ?_
  conv => whnf
  refine ⟨⟨(k + 1, k, xs), ⟨⟨Nat.lt_succ_self k, hk, Nat.lt_succ_self k⟩, by rw [hst.1, hkl], hst.2.symm⟩, ?_⟩, ?_⟩
  · conv => whnf
    repeat' (first | exact trivial | exact rfl | refine And.intro ?_ ?_ | ((conv => whnf); first | exact trivial | exact rfl | refine And.intro ?_ ?_ | omega))
  rintro ⟨j, k2, C⟩ ⟨⟨hj1, hj2, hj3⟩, hk2e, hCe⟩ ρ1 t1 hρ1
  have hj1 : k < j := hj1
  have hj2 : j ≤ xs.length := hj2
  have hj3 : k2 < j := hj3
  have hk2e : k2 = (delL p xs j).length := hk2e
  have hCe : C = delC p xs j := hCe
  have hCl : C.length = xs.length := by rw [hCe]; exact delC_length p xs j hj2
  have hno : ∀ (h : j < xs.length), p xs[j] = false → k2 + 1 = (delL p xs (j + 1)).length ∧ C.set k2 xs[j] = delC p xs (j + 1) := fun h hp =>
    ⟨by rw [delL_no h hp, hk2e]; simp, by rw [hk2e, hCe]; exact delC_no h hp⟩
  have hyes : ∀ (h : j < xs.length), p xs[j] = true → k2 = (delL p xs (j + 1)).length ∧ C = delC p xs (j + 1) := fun h hp =>
    ⟨by rw [delL_yes h hp]; exact hk2e, by rw [hCe]; exact (delC_yes h hp).symm⟩
  have hgt : ∀ i, j ≤ i → C[i]? = xs[i]? := fun i hi => by rw [hCe]; exact delC_get p xs j i (by omega)
  have hend : j = xs.length → C.take k2 = xs.filter fun x => !p x := fun h => by rw [hCe, hk2e, h]; exact delC_end p xs
  clear hk2e hCe
  conv => whnf
  refine ⟨fun hc => ?_, fun hc => ?_⟩
  · have hc : j < xs.length := by simpa using hc
    have hlt := hc
    have hcl : j < C.length := by omega
    have hget : C[j] = xs[j] := by
      have := hgt j (by omega)
      rw [List.getElem?_eq_getElem hcl, List.getElem?_eq_getElem hlt] at this
      exact Option.some.inj this
    have hpv : (fun id => clashB bs ls id) C[j] = p xs[j] := by rw [hdel, hget]
    have hkl2 : k2 < C.length := by omega
    refine ⟨j, rfl, hc, hcl, ?_⟩
    conv => whnf
    refine call_step (susp1_t bs ls C[j] hs) rfl rfl ?_
    conv => whnf
    refine ⟨(by repeat' (first | exact trivial | exact rfl | refine And.intro ?_ ?_ | ((conv => whnf); first | exact trivial | exact rfl | refine And.intro ?_ ?_ | omega))), (by repeat' (first | exact trivial | exact rfl | refine And.intro ?_ ?_ | ((conv => whnf); first | exact trivial | exact rfl | refine And.intro ?_ ?_ | omega))), ?_⟩
    conv => whnf
    refine ⟨fun hc => ?_, fun hc => ?_⟩
    · have hpj : p xs[j] = false := by rw [← hpv]; simpa using hc
      obtain ⟨hl1, e2⟩ := hno hlt hpj
      conv => whnf
      refine ⟨k2, rfl, by omega, hkl2, C[j], rfl, ?_⟩
      conv => whnf
      refine ⟨_, wrapId ⟨by omega, by omega⟩, ?_⟩
      conv => whnf
      refine ⟨_, wrapId ⟨by omega, by omega⟩, ?_⟩
      refine ⟨(j + 1, k2 + 1, C.set k2 C[j]), ⟨⟨by show k < j + 1; omega, hlt, by show k2 + 1 < j + 1; omega⟩, hl1, ?_⟩, by show xs.length - (j + 1) < xs.length - j; omega, ?_⟩
      · rw [hget]; exact e2
      conv => whnf
      refine ⟨rfl, ?_⟩
      conv => whnf
      repeat' (first | exact trivial | exact rfl | refine And.intro ?_ ?_ | ((conv => whnf); first | exact trivial | exact rfl | refine And.intro ?_ ?_ | omega))
    · have hpj : p xs[j] = true := by rw [← hpv]; simpa using hc
      obtain ⟨hl1, e2⟩ := hyes hlt hpj
      conv => whnf
      refine ⟨_, wrapId ⟨by omega, by omega⟩, ?_⟩
      refine ⟨(j + 1, k2, C), ⟨⟨by show k < j + 1; omega, hlt, by show k2 < j + 1; omega⟩, hl1, e2⟩, by show xs.length - (j + 1) < xs.length - j; omega, ?_⟩
      conv => whnf
      refine ⟨rfl, ?_⟩
      conv => whnf
      repeat' (first | exact trivial | exact rfl | refine And.intro ?_ ?_ | ((conv => whnf); first | exact trivial | exact rfl | refine And.intro ?_ ?_ | omega))
  · have hj4 : j = xs.length := by simp at hc; omega
    have he := hend hj4
    have hfl : (xs.filter fun x => !p x).length = k2 := by rw [← he, List.length_take]; omega
    conv => whnf
    refine ⟨Nat.le_refl _, k2, rfl, by omega, ?_⟩
    conv => whnf
    refine clear_step tB_ok rfl rfl rfl rfl ?_
    conv => whnf
    refine ⟨⟨rfl, ?_⟩, ?_⟩
    · show addN 0 _ + subN xs.length _ ≤ C.length
      rw [addN_eq, subN_eq]; omega
    conv => whnf
    refine ⟨k2, rfl, by omega, ?_⟩
    conv => whnf
    refine ⟨Nat.zero_le _, ?_⟩
    conv => whnf
    repeat' (first | exact trivial | exact rfl | refine And.intro ?_ ?_ | ((conv => whnf); first | exact trivial | exact rfl | refine And.intro ?_ ?_ | omega))
    · rw [subN_eq]; omega
    · rw [addN_eq, Nat.zero_add]; exact congrArg aInt he

def suspF (bs : List (Int × Int)) (ls : List Lnk) : List Int := (idsF ls).filter fun id => !clashB bs ls id

theorem idsF_len (ls : List Lnk) : (idsF ls).length ≤ ls.length := by
  have h1 := compI_len (sortI (idsP ls))
  have h2 : (sortI (idsP ls)).length = (idsP ls).length := List.length_mergeSort _
  have h3 := idsP_len ls
  unfold idsF; omega

theorem suspectsYes_t (bs : List (Int × Int)) (ls : List Lnk) (hs : SysOK bs ls) (h : ¬ Calm bs ls 0) :
    Triple Try.prog 37 [sysA bs.length ls.length] (sysH bs ls) 2 (.tup [.inl (.s 2 0 (suspF bs ls).length 1), .inl (.v (.int .i64 0))]) [(2, true, .arr (aInt (suspF bs ls)))] := by
  have hnl := hs.nl
  have hil := idsF_len ls
  obtain ⟨v, P, kk, M, h1, h2, h3⟩ := cyc_of (graphF_ok hs 0) (Nat.le_refl _) h
  refine triple_of tB_ok Try.func37 rfl Try.call37 rfl ?_
  intro ρ w hH
  conv => whnf
  refine call_step (conflictYes_t bs ls v P kk M hs h1 h3) rfl rfl ?_
  conv => whnf
  refine ⟨(by repeat' (first | exact trivial | exact rfl | refine And.intro ?_ ?_ | ((conv => whnf); first | exact trivial | exact rfl | refine And.intro ?_ ?_ | omega))), (by repeat' (first | exact trivial | exact rfl | refine And.intro ?_ ?_ | ((conv => whnf); first | exact trivial | exact rfl | refine And.intro ?_ ?_ | omega))), ?_⟩
  conv => whnf
  refine ⟨fun hc => absurd hc (by simp), fun hc => ?_⟩
  conv => whnf
  refine call_step (ids_t ls (by omega)) rfl rfl ?_
  conv => whnf
  refine ⟨(by repeat' (first | exact trivial | exact rfl | refine And.intro ?_ ?_ | ((conv => whnf); first | exact trivial | exact rfl | refine And.intro ?_ ?_ | omega))), (by repeat' (first | exact trivial | exact rfl | refine And.intro ?_ ?_ | ((conv => whnf); first | exact trivial | exact rfl | refine And.intro ?_ ?_ | omega))), ?_⟩
  conv => whnf
  refine call_step (deleteSusp_t bs ls hs (idsF ls) (by omega)) rfl rfl ?_
  conv => whnf
  refine ⟨(by repeat' (first | exact trivial | exact rfl | refine And.intro ?_ ?_ | ((conv => whnf); first | exact trivial | exact rfl | refine And.intro ?_ ?_ | omega))), (by repeat' (first | exact trivial | exact rfl | refine And.intro ?_ ?_ | ((conv => whnf); first | exact trivial | exact rfl | refine And.intro ?_ ?_ | omega))), ?_⟩
  conv => whnf
  repeat' (first | exact trivial | exact rfl | refine And.intro ?_ ?_ | ((conv => whnf); first | exact trivial | exact rfl | refine And.intro ?_ ?_ | omega))

theorem suspectsNo_t (bs : List (Int × Int)) (ls : List Lnk) (hs : SysOK bs ls) (h : Calm bs ls 0) :
    Triple Try.prog 37 [sysA bs.length ls.length] (sysH bs ls) 2 (.tup [.inl (.s 2 0 0 1), .inl (.v (.int .i64 0))]) [(2, true, .arr (aInt []))] := by
  refine triple_of tB_ok Try.func37 rfl Try.call37 rfl ?_
  intro ρ w hH
  conv => whnf
  refine call_step (conflictNone_t bs ls hs h) rfl rfl ?_
  conv => whnf
  refine ⟨(by repeat' (first | exact trivial | exact rfl | refine And.intro ?_ ?_ | ((conv => whnf); first | exact trivial | exact rfl | refine And.intro ?_ ?_ | omega))), (by repeat' (first | exact trivial | exact rfl | refine And.intro ?_ ?_ | ((conv => whnf); first | exact trivial | exact rfl | refine And.intro ?_ ?_ | omega))), ?_⟩
  conv => whnf
  refine ⟨fun hc => absurd hc (by simp), fun hc => ?_⟩
  conv => whnf
  repeat' (first | exact trivial | exact rfl | refine And.intro ?_ ?_ | ((conv => whnf); first | exact trivial | exact rfl | refine And.intro ?_ ?_ | omega))

theorem suspectsErr_t (bs : List (Int × Int)) (ls : List Lnk) (hb : bs.length ≤ 1000000) (hl : ls.length ≤ 1000000) (hc : checkF bs ls ≠ 0) :
    Triple Try.prog 37 [sysA bs.length ls.length] (sysH bs ls) 2 (.tup [.inl (.s 2 0 0 1), .inl (.v (.int .i64 (checkF bs ls)))]) [(2, true, .arr (aInt []))] := by
  refine triple_of tB_ok Try.func37 rfl Try.call37 rfl ?_
  intro ρ w hH
  conv => whnf
  refine call_step (conflictErr_t bs ls hb hl hc) rfl rfl ?_
  conv => whnf
  refine ⟨(by repeat' (first | exact trivial | exact rfl | refine And.intro ?_ ?_ | ((conv => whnf); first | exact trivial | exact rfl | refine And.intro ?_ ?_ | omega))), (by repeat' (first | exact trivial | exact rfl | refine And.intro ?_ ?_ | ((conv => whnf); first | exact trivial | exact rfl | refine And.intro ?_ ?_ | omega))), ?_⟩
  conv => whnf
  generalize checkF bs ls = c at *
  refine ⟨fun hcc => ?_, fun hcc => ?_⟩
  · conv => whnf
    repeat' (first | exact trivial | exact rfl | refine And.intro ?_ ?_ | ((conv => whnf); first | exact trivial | exact rfl | refine And.intro ?_ ?_ | omega))
  · exact absurd (by simpa using hcc) hc

/-! ### The reference implementation's -/

def refSuspF (bs : List (Int × Int)) (ls : List Lnk) : List Int := if (fromF bs.length (allF bs ls) (-1)).isSome then [] else (refIds ls).filter fun id => (fromF bs.length (allF bs (withoutF ls id)) (-1)).isSome

theorem refSuspects_t (bs : List (Int × Int)) (ls : List Lnk) (hs : SysOK bs ls) :
    Triple Try.prog 38 [sysA bs.length ls.length] (sysH bs ls) 2 (.tup [.inl (.s 2 0 (refSuspF bs ls).length 1), .inl (.v (.int .i64 0))]) [(2, true, .arr (aInt (refSuspF bs ls)))] := by
  have hnb := hs.nb
  have hnl := hs.nl
  refine triple_of tB_ok Try.func38 rfl Try.call38 rfl ?_
  intro ρ w hH
  conv => whnf
  refine call_step (refCheck_t bs ls (by omega) (by omega)) rfl rfl ?_
  conv => whnf
  refine ⟨(by repeat' (first | exact trivial | exact rfl | refine And.intro ?_ ?_ | ((conv => whnf); first | exact trivial | exact rfl | refine And.intro ?_ ?_ | omega))), (by repeat' (first | exact trivial | exact rfl | refine And.intro ?_ ?_ | ((conv => whnf); first | exact trivial | exact rfl | refine And.intro ?_ ?_ | omega))), ?_⟩
  conv => whnf
  rw [checkF_ok.2 hs]
  refine ⟨fun hc => absurd hc (by simp), fun hc => ?_⟩
  conv => whnf
  refine call_step (agrees_t bs ls (by omega) hs.boxB (by omega) (allF_ok hs)) rfl rfl ?_
  conv => whnf
  refine ⟨(by repeat' (first | exact trivial | exact rfl | refine And.intro ?_ ?_ | ((conv => whnf); first | exact trivial | exact rfl | refine And.intro ?_ ?_ | omega))), (by repeat' (first | exact trivial | exact rfl | refine And.intro ?_ ?_ | ((conv => whnf); first | exact trivial | exact rfl | refine And.intro ?_ ?_ | omega))), ?_⟩
  conv => whnf
  refine call_step (refIDs_t ls (by omega)) rfl rfl ?_
  conv => whnf
  refine ⟨(by repeat' (first | exact trivial | exact rfl | refine And.intro ?_ ?_ | ((conv => whnf); first | exact trivial | exact rfl | refine And.intro ?_ ?_ | omega))), (by repeat' (first | exact trivial | exact rfl | refine And.intro ?_ ?_ | ((conv => whnf); first | exact trivial | exact rfl | refine And.intro ?_ ?_ | omega))), ?_⟩
  conv => whnf
  have hF : refSuspF bs ls = if (fromF bs.length (allF bs ls) (-1)).isSome then [] else (refIds ls).filter fun id => (fromF bs.length (allF bs (withoutF ls id)) (-1)).isSome := rfl
  have hil : (refIds ls).length ≤ 1200 := by
    have := refIds_len ls []
    unfold refIds
    simp at this ⊢
    omega
  generalize refSuspF bs ls = res at *
  generalize (fromF bs.length (allF bs ls) (-1)).isSome = all at *
  generalize hids : refIds ls = ids at *
  refine loop_step tB_ok (G := Nat × List Int) 1 [] (fun g => [(8, iv .i64 g.1), (5, .c (.s 4 0 g.2.length 1))]) (fun g => [(4, true, .arr (aInt g.2))]) (fun g => g.1 ≤ ids.length ∧ g.2 = if all then [] else (ids.take g.1).filter fun id => (fromF bs.length (allF bs (withoutF ls id)) (-1)).isSome) (fun g => ids.length - g.1) ?_
  conv => whnf
  refine ⟨⟨(0, []), ⟨Nat.zero_le _, by simp⟩, ?_⟩, ?_⟩
  · conv => whnf
    repeat' (first | exact trivial | exact rfl | refine And.intro ?_ ?_ | ((conv => whnf); first | exact trivial | exact rfl | refine And.intro ?_ ?_ | omega))
  rintro ⟨i, out⟩ ⟨hi, hout⟩ ρ1 t1 hρ1
  have hi : i ≤ ids.length := hi
  have hout : out = if all then [] else (ids.take i).filter fun id => (fromF bs.length (allF bs (withoutF ls id)) (-1)).isSome := hout
  have hol : out.length ≤ ids.length := by
    rw [hout]
    split
    · simp
    · refine Nat.le_trans (List.length_filter_le _ _) ?_; rw [List.length_take]; omega
  dsimp only
  conv => whnf
  refine ⟨fun hc => ?_, fun hc => ?_⟩
  · have hlt : i < ids.length := by have := of_decide_eq_true (show decide ((i : Int) < ids.length) = true from hc); omega
    conv => whnf
    refine ⟨fun hc => ?_, fun hc => ?_⟩
    · have ha : all = false := by simpa using (show (!all) = true from hc)
      rw [ha, if_neg (by simp)] at hout
      have hst := filter_take_succ (p := fun id => (fromF bs.length (allF bs (withoutF ls id)) (-1)).isSome) hlt
      rw [← hout] at hst
      conv => whnf
      refine ⟨i, rfl, hlt, hlt, ?_⟩
      conv => whnf
      refine call_step (refWithout_t bs ls ids[i] (by omega)) rfl rfl ?_
      conv => whnf
      refine ⟨(by repeat' (first | exact trivial | exact rfl | refine And.intro ?_ ?_ | ((conv => whnf); first | exact trivial | exact rfl | refine And.intro ?_ ?_ | omega))), (by repeat' (first | exact trivial | exact rfl | refine And.intro ?_ ?_ | ((conv => whnf); first | exact trivial | exact rfl | refine And.intro ?_ ?_ | omega))), ?_⟩
      conv => whnf
      have hs2 := withoutF_ok hs ids[i]
      have hl2 := hs2.nl
      refine call_step (agrees_t bs (withoutF ls ids[i]) (by omega) hs2.boxB (by omega) (allF_ok hs2)) rfl rfl ?_
      conv => whnf
      refine ⟨(by repeat' (first | exact trivial | exact rfl | refine And.intro ?_ ?_ | ((conv => whnf); first | exact trivial | exact rfl | refine And.intro ?_ ?_ | omega))), (by repeat' (first | exact trivial | exact rfl | refine And.intro ?_ ?_ | ((conv => whnf); first | exact trivial | exact rfl | refine And.intro ?_ ?_ | omega))), ?_⟩
      conv => whnf
      refine ⟨fun hc => ?_, fun hc => ?_⟩
      · have hg : (fromF bs.length (allF bs (withoutF ls ids[i])) (-1)).isSome = true := hc
        rw [if_pos hg] at hst
        conv => whnf
        refine ⟨i, rfl, hlt, hlt, ?_⟩
        conv => whnf
        refine bs_step tB_ok (aInt [ids[i]]) rfl rfl ?_
        conv => whnf
        refine ⟨⟨rfl, rfl, trivial⟩, ?_⟩
        conv => whnf
        refine app_step tB_ok (aInt out) [ids[i]] (fun _ => rfl) rfl rfl rfl rfl ?_
        conv => whnf
        refine ⟨⟨rfl, rfl, Nat.le_refl _, Nat.le_refl _, by show (out.length + 1) * 9 ≤ _; omega⟩, ?_⟩
        conv => whnf
        refine ⟨_, wrapId ⟨by omega, by omega⟩, ?_⟩
        refine ⟨(i + 1, out ++ [ids[i]]), ⟨hlt, by rw [ha, if_neg (by simp)]; exact hst.symm⟩, by show ids.length - (i + 1) < ids.length - i; omega, ?_⟩
        conv => whnf
        refine ⟨rfl, ?_⟩
        conv => whnf
        repeat' (first | exact trivial | exact rfl | refine And.intro ?_ ?_ | ((conv => whnf); first | exact trivial | exact rfl | refine And.intro ?_ ?_ | omega))
        all_goals first | exact (congrArg aInt app1 : _) | simp
      · have hg : ¬ (fromF bs.length (allF bs (withoutF ls ids[i])) (-1)).isSome = true := by rw [show (fromF bs.length (allF bs (withoutF ls ids[i])) (-1)).isSome = false from hc]; simp
        rw [if_neg hg, List.append_nil] at hst
        conv => whnf
        refine ⟨_, wrapId ⟨by omega, by omega⟩, ?_⟩
        refine ⟨(i + 1, out), ⟨hlt, by rw [ha, if_neg (by simp)]; exact hst.symm⟩, by show ids.length - (i + 1) < ids.length - i; omega, ?_⟩
        conv => whnf
        refine ⟨rfl, ?_⟩
        conv => whnf
        repeat' (first | exact trivial | exact rfl | refine And.intro ?_ ?_ | ((conv => whnf); first | exact trivial | exact rfl | refine And.intro ?_ ?_ | omega))
    · have ha : all = true := by simpa using (show (!all) = false from hc)
      rw [ha, if_pos rfl] at hout hF
      rw [← hF] at hout
      subst hout
      conv => whnf
      repeat' (first | exact trivial | exact rfl | refine And.intro ?_ ?_ | ((conv => whnf); first | exact trivial | exact rfl | refine And.intro ?_ ?_ | omega))
  have hie : i = ids.length := by have := of_decide_eq_false (show decide ((i : Int) < ids.length) = false from hc); omega
  rw [hie, List.take_length, ← hF] at hout
  subst hout
  conv => whnf
  repeat' (first | exact trivial | exact rfl | refine And.intro ?_ ?_ | ((conv => whnf); first | exact trivial | exact rfl | refine And.intro ?_ ?_ | omega))

theorem refSuspectsErr_t (bs : List (Int × Int)) (ls : List Lnk) (hb : bs.length ≤ 1000000) (hl : ls.length ≤ 1000000) (hc : checkF bs ls ≠ 0) :
    Triple Try.prog 38 [sysA bs.length ls.length] (sysH bs ls) 2 (.tup [.inl (.s 2 0 0 1), .inl (.v (.int .i64 (checkF bs ls)))]) [(2, true, .arr (aInt []))] := by
  refine triple_of tB_ok Try.func38 rfl Try.call38 rfl ?_
  intro ρ w hH
  conv => whnf
  refine call_step (refCheck_t bs ls hb hl) rfl rfl ?_
  conv => whnf
  refine ⟨(by repeat' (first | exact trivial | exact rfl | refine And.intro ?_ ?_ | ((conv => whnf); first | exact trivial | exact rfl | refine And.intro ?_ ?_ | omega))), (by repeat' (first | exact trivial | exact rfl | refine And.intro ?_ ?_ | ((conv => whnf); first | exact trivial | exact rfl | refine And.intro ?_ ?_ | omega))), ?_⟩
  conv => whnf
  generalize checkF bs ls = c at *
  refine ⟨fun hcc => ?_, fun hcc => ?_⟩
  · conv => whnf
    repeat' (first | exact trivial | exact rfl | refine And.intro ?_ ?_ | ((conv => whnf); first | exact trivial | exact rfl | refine And.intro ?_ ?_ | omega))
  · exact absurd (by simpa using hcc) hc

/-! ### The law -/

theorem few_calm {bs : List (Int × Int)} {ls : List Lnk} (hs : SysOK bs ls) (hf : bs.length ≤ 14 ∧ ls.length ≤ 40) (k : Int) : (fromF bs.length (graphF bs ls k) (-1)).isSome = !clashB bs ls k := by
  have hl : (graphF bs ls k).length ≤ 200 := by
    have := allF_len bs ls
    refine Nat.le_trans (List.length_filter_le _ _) ?_
    omega
  have hp : plc bs.length (-1) = bs.length := rfl
  cases h : (fromF bs.length (graphF bs ls k) (-1)).isSome with
  | true =>
    obtain ⟨o, ho⟩ := Option.isSome_iff_exists.1 h
    have := from_calm hf.1 hl (graphF_ok hs k) ⟨by omega, by omega⟩ ho
    rw [hp] at this
    have e : clashB bs ls k = false := decide_eq_false (fun hn => hn this)
    rw [e]; rfl
  | false =>
    have e : clashB bs ls k = true := by
      refine decide_eq_true fun hc => ?_
      have := calm_from hf.1 hl (graphF_ok hs k) (hub_graph bs ls k) (a := -1) ⟨by omega, by omega⟩ (by rw [hp]; exact hc)
      rw [h] at this; cases this
    rw [e]; rfl

theorem susp_eq {bs : List (Int × Int)} {ls : List Lnk} (hs : SysOK bs ls) (hf : bs.length ≤ 14 ∧ ls.length ≤ 40) : refSuspF bs ls = if clashB bs ls 0 then suspF bs ls else [] := by
  have h0 := few_calm hs hf 0
  rw [graphF_zero] at h0
  unfold refSuspF
  rw [h0]
  cases hc : clashB bs ls 0 with
  | false => rfl
  | true =>
    rw [if_neg (by simp), if_pos rfl]
    unfold suspF
    have hids : idsF ls = refIds ls := ids_eq fun l hl => by
      have := (properF_iff.1 (hs.lnk l hl)).2.2.2.2; omega
    rw [hids]
    refine List.filter_congr fun id hid => ?_
    have hne : id ≠ 0 := by
      have := (refIds_inc (ls := ls) (o := []) List.Pairwise.nil).2 id
      have hid : id ∈ ls.foldl (fun o l => insI o l.i) [] := hid
      rw [this] at hid
      rcases hid with hid | hid
      · cases hid
      · exact hid.1
    rw [graphF_without hne]
    exact few_calm hs hf id

theorem cyc_chain {n : Nat} {arcs : List Lnk} {T : Tr} {v : Nat} {P kk : Nat → Nat} {M : Nat} (hok : ∀ l ∈ arcs, ArcOK n l) (h : Cyc n arcs T v P kk M) : ∀ m, ∀ s : Int,
    chainF arcs (cycL n arcs kk (m + 1)).reverse (arcs.getD (kk (n + 1 + m) / 2) ⟨0, 0, 0, 0⟩).f s = some (s + wsum (fun m => (arcs.getD (kk (n + 1 + m) / 2) ⟨0, 0, 0, 0⟩).m) (m + 1), (arcs.getD (kk (n + 1) / 2) ⟨0, 0, 0, 0⟩).t) := by
  have hmem : ∀ m, arcs.getD (kk m / 2) ⟨0, 0, 0, 0⟩ ∈ arcs ∧ plc n (arcs.getD (kk m / 2) ⟨0, 0, 0, 0⟩).t = P m ∧ plc n (arcs.getD (kk m / 2) ⟨0, 0, 0, 0⟩).f = P (m + 1) := by
    intro m
    obtain ⟨l, h1, h2, h3⟩ := h.lnk m
    rw [List.getD_eq_getElem?_getD, h1]
    exact ⟨List.mem_of_getElem? h1, h2, h3⟩
  intro m
  induction m with
  | zero =>
    intro s
    rw [cycL_succ, List.reverse_append]
    show chainF arcs [arcs.getD (kk (n + 1) / 2) ⟨0, 0, 0, 0⟩] _ s = _
    unfold chainF
    rw [if_pos ⟨(hmem _).1, rfl⟩]
    unfold chainF
    simp [wsum]
  | succ m ih =>
    intro s
    rw [cycL_succ, List.reverse_append]
    show chainF arcs (arcs.getD (kk (n + 1 + (m + 1)) / 2) ⟨0, 0, 0, 0⟩ :: (cycL n arcs kk (m + 1)).reverse) _ s = _
    unfold chainF
    rw [if_pos ⟨(hmem _).1, rfl⟩]
    have e : (arcs.getD (kk (n + 1 + (m + 1)) / 2) ⟨0, 0, 0, 0⟩).t = (arcs.getD (kk (n + 1 + m) / 2) ⟨0, 0, 0, 0⟩).f := by
      refine plc_inj (hok _ (hmem _).1).2.1 (hok _ (hmem _).1).1 ?_
      rw [(hmem _).2.1, (hmem _).2.2]; rfl
    rw [e, ih]
    have e2 : wsum (fun m => (arcs.getD (kk (n + 1 + m) / 2) ⟨0, 0, 0, 0⟩).m) (m + 1 + 1) = wsum (fun m => (arcs.getD (kk (n + 1 + m) / 2) ⟨0, 0, 0, 0⟩).m) (m + 1) + (arcs.getD (kk (n + 1 + (m + 1)) / 2) ⟨0, 0, 0, 0⟩).m := rfl
    rw [e2]
    congr 2
    omega

theorem cyc_check {bs : List (Int × Int)} {ls : List Lnk} {T : Tr} {v : Nat} {P kk : Nat → Nat} {M : Nat} (hs : SysOK bs ls) (h : Cyc bs.length (graphF bs ls 0) T v P kk M) : checkCycF bs ls (cycL bs.length (graphF bs ls 0) kk M).reverse = 0 := by
  have hM := h.pos
  have hL := h.len
  have hnb := hs.nb
  have hln : (cycL bs.length (graphF bs ls 0) kk M).reverse.length = M := by simp [cycL]
  have hok := graphF_ok hs 0
  obtain ⟨m, rfl⟩ : ∃ m, M = m + 1 := ⟨M - 1, by omega⟩
  have hch := cyc_chain hok h m 0
  rw [Int.zero_add] at hch
  have hneg := h.neg
  have hhead : headI (cycL bs.length (graphF bs ls 0) kk (m + 1)).reverse = ((graphF bs ls 0).getD (kk (bs.length + 1 + m) / 2) ⟨0, 0, 0, 0⟩).f := by
    unfold headI
    rw [cycL_succ, List.reverse_append]; rfl
  have hend : ((graphF bs ls 0).getD (kk (bs.length + 1) / 2) ⟨0, 0, 0, 0⟩).t = ((graphF bs ls 0).getD (kk (bs.length + 1 + m) / 2) ⟨0, 0, 0, 0⟩).f := by
    obtain ⟨l1, g1, g2, g3⟩ := h.lnk (bs.length + 1)
    obtain ⟨l2, k1, k2, k3⟩ := h.lnk (bs.length + 1 + m)
    rw [List.getD_eq_getElem?_getD, g1, List.getD_eq_getElem?_getD, k1]
    refine plc_inj (hok _ (List.mem_of_getElem? g1)).2.1 (hok _ (List.mem_of_getElem? k1)).1 ?_
    show plc bs.length l1.t = plc bs.length l2.f
    rw [g2, k3]
    exact h.per.symm
  unfold checkCycF
  rw [if_neg (by rw [checkF_ok.2 hs]; simp), if_neg (by omega), if_neg (by omega), hhead]
  have e : chainR (allF bs ls) (cycL bs.length (graphF bs ls 0) kk (m + 1)).reverse ((graphF bs ls 0).getD (kk (bs.length + 1 + m) / 2) ⟨0, 0, 0, 0⟩).f ((graphF bs ls 0).getD (kk (bs.length + 1 + m) / 2) ⟨0, 0, 0, 0⟩).f =
      (wsum (fun m => ((graphF bs ls 0).getD (kk (bs.length + 1 + m) / 2) ⟨0, 0, 0, 0⟩).m) (m + 1), true) := by
    unfold chainR
    rw [← graphF_zero bs ls, hch, hend]
    simp
  rw [e]
  rw [if_neg]
  simp only [Bool.true_eq_false, false_or]
  omega

theorem systemConflicts_t (bs : List (Int × Int)) (ls : List Lnk) : Triple Try.prog 6 [sysA bs.length ls.length] (sysH bs ls) 2 (bv true) [] := by
  by_cases hfew : fewF bs ls = true
  · have hf : bs.length ≤ 14 ∧ ls.length ≤ 40 := by simpa [fewF] using hfew
    by_cases h0 : checkF bs ls = 0
    · have hs := checkF_ok.1 h0
      have hsu := refSuspects_t bs ls hs
      rw [susp_eq hs hf] at hsu
      have hag := agrees_t bs ls (by omega) hs.boxB (by omega) (allF_ok hs)
      have h00 := few_calm hs hf 0
      rw [graphF_zero] at h00
      rw [h00] at hag
      have hsl : (suspF bs ls).length ≤ 40 := by
        have h1 : (suspF bs ls).length ≤ (idsF ls).length := List.length_filter_le _ _
        have h2 := idsF_len ls
        omega
      by_cases hcalm : Calm bs ls 0
      · have hcb : clashB bs ls 0 = false := decide_eq_false (fun hn => hn hcalm)
        rw [hcb, if_neg (by simp)] at hsu
        rw [hcb] at hag
        refine triple_of tB_ok Try.func6 rfl Try.call6 rfl ?_
        intro ρ w hH
        conv => whnf
        refine call_step head_t rfl rfl ?_
        conv => whnf
        refine ⟨(by repeat' (first | exact trivial | exact rfl | refine And.intro ?_ ?_ | ((conv => whnf); first | exact trivial | exact rfl | refine And.intro ?_ ?_ | omega))), (by repeat' (first | exact trivial | exact rfl | refine And.intro ?_ ?_ | ((conv => whnf); first | exact trivial | exact rfl | refine And.intro ?_ ?_ | omega))), ?_⟩
        conv => whnf
        refine call_step (few_t bs ls) rfl rfl ?_
        conv => whnf
        refine ⟨(by repeat' (first | exact trivial | exact rfl | refine And.intro ?_ ?_ | ((conv => whnf); first | exact trivial | exact rfl | refine And.intro ?_ ?_ | omega))), (by repeat' (first | exact trivial | exact rfl | refine And.intro ?_ ?_ | ((conv => whnf); first | exact trivial | exact rfl | refine And.intro ?_ ?_ | omega))), ?_⟩
        conv => whnf
        rw [hfew]
        refine ⟨fun hc => absurd hc (by simp), fun hc => ?_⟩
        conv => whnf
        refine call_step (conflictNone_t bs ls hs hcalm) rfl rfl ?_
        conv => whnf
        refine ⟨(by repeat' (first | exact trivial | exact rfl | refine And.intro ?_ ?_ | ((conv => whnf); first | exact trivial | exact rfl | refine And.intro ?_ ?_ | omega))), (by repeat' (first | exact trivial | exact rfl | refine And.intro ?_ ?_ | ((conv => whnf); first | exact trivial | exact rfl | refine And.intro ?_ ?_ | omega))), ?_⟩
        conv => whnf
        refine call_step (suspectsNo_t bs ls hs hcalm) rfl rfl ?_
        conv => whnf
        refine ⟨(by repeat' (first | exact trivial | exact rfl | refine And.intro ?_ ?_ | ((conv => whnf); first | exact trivial | exact rfl | refine And.intro ?_ ?_ | omega))), (by repeat' (first | exact trivial | exact rfl | refine And.intro ?_ ?_ | ((conv => whnf); first | exact trivial | exact rfl | refine And.intro ?_ ?_ | omega))), ?_⟩
        conv => whnf
        refine call_step hsu rfl rfl ?_
        conv => whnf
        refine ⟨(by repeat' (first | exact trivial | exact rfl | refine And.intro ?_ ?_ | ((conv => whnf); first | exact trivial | exact rfl | refine And.intro ?_ ?_ | omega))), (by repeat' (first | exact trivial | exact rfl | refine And.intro ?_ ?_ | ((conv => whnf); first | exact trivial | exact rfl | refine And.intro ?_ ?_ | omega))), ?_⟩
        conv => whnf
        refine call_step (ints_t [] [] (by simp)) rfl rfl ?_
        conv => whnf
        refine ⟨(by repeat' (first | exact trivial | exact rfl | refine And.intro ?_ ?_ | ((conv => whnf); first | exact trivial | exact rfl | refine And.intro ?_ ?_ | omega))), (by repeat' (first | exact trivial | exact rfl | refine And.intro ?_ ?_ | ((conv => whnf); first | exact trivial | exact rfl | refine And.intro ?_ ?_ | omega))), ?_⟩
        conv => whnf
        refine call_step (refCheck_t bs ls (by omega) (by omega)) rfl rfl ?_
        conv => whnf
        refine ⟨(by repeat' (first | exact trivial | exact rfl | refine And.intro ?_ ?_ | ((conv => whnf); first | exact trivial | exact rfl | refine And.intro ?_ ?_ | omega))), (by repeat' (first | exact trivial | exact rfl | refine And.intro ?_ ?_ | ((conv => whnf); first | exact trivial | exact rfl | refine And.intro ?_ ?_ | omega))), ?_⟩
        conv => whnf
        rw [h0]
        refine ⟨fun hc => absurd hc (by simp), fun hc => ?_⟩
        conv => whnf
        refine ⟨fun hc => absurd hc (by simp), fun hc => ?_⟩
        conv => whnf
        refine ⟨fun hc => absurd hc (by simp), fun hc => ?_⟩
        conv => whnf
        refine ⟨fun hc => absurd hc (by simp), fun hc => ?_⟩
        conv => whnf
        refine call_step hag rfl rfl ?_
        conv => whnf
        refine ⟨(by repeat' (first | exact trivial | exact rfl | refine And.intro ?_ ?_ | ((conv => whnf); first | exact trivial | exact rfl | refine And.intro ?_ ?_ | omega))), (by repeat' (first | exact trivial | exact rfl | refine And.intro ?_ ?_ | ((conv => whnf); first | exact trivial | exact rfl | refine And.intro ?_ ?_ | omega))), ?_⟩
        conv => whnf
        refine ⟨fun hc => absurd hc (by simp), fun hc => ?_⟩
        conv => whnf
        refine ⟨fun hc => ?_, fun hc => absurd hc (by simp)⟩
        conv => whnf
        repeat' (first | exact trivial | exact rfl | refine And.intro ?_ ?_ | ((conv => whnf); first | exact trivial | exact rfl | refine And.intro ?_ ?_ | omega))
      · have hcb : clashB bs ls 0 = true := decide_eq_true hcalm
        rw [hcb, if_pos rfl] at hsu
        rw [hcb] at hag
        obtain ⟨v, P, kk, M, hch, hv, hcy⟩ := cyc_of (graphF_ok hs 0) (Nat.le_refl _) hcalm
        have hML := hcy.len
        have hll : (cycL bs.length (graphF bs ls 0) kk M).reverse.length = M := by simp [cycL]
        have hck := refCheckCycle_t bs ls (cycL bs.length (graphF bs ls 0) kk M).reverse (by omega) (by omega) (by omega)
        rw [cyc_check hs hcy] at hck
        have hpr := lawProper_t (cycL bs.length (graphF bs ls 0) kk M).reverse hcy.tos (by omega)
        have hcf := conflictYes_t bs ls v P kk M hs hch hcy
        generalize (cycL bs.length (graphF bs ls 0) kk M).reverse = L at *
        refine triple_of tB_ok Try.func6 rfl Try.call6 rfl ?_
        intro ρ w hH
        conv => whnf
        refine call_step head_t rfl rfl ?_
        conv => whnf
        refine ⟨(by repeat' (first | exact trivial | exact rfl | refine And.intro ?_ ?_ | ((conv => whnf); first | exact trivial | exact rfl | refine And.intro ?_ ?_ | omega))), (by repeat' (first | exact trivial | exact rfl | refine And.intro ?_ ?_ | ((conv => whnf); first | exact trivial | exact rfl | refine And.intro ?_ ?_ | omega))), ?_⟩
        conv => whnf
        refine call_step (few_t bs ls) rfl rfl ?_
        conv => whnf
        refine ⟨(by repeat' (first | exact trivial | exact rfl | refine And.intro ?_ ?_ | ((conv => whnf); first | exact trivial | exact rfl | refine And.intro ?_ ?_ | omega))), (by repeat' (first | exact trivial | exact rfl | refine And.intro ?_ ?_ | ((conv => whnf); first | exact trivial | exact rfl | refine And.intro ?_ ?_ | omega))), ?_⟩
        conv => whnf
        rw [hfew]
        refine ⟨fun hc => absurd hc (by simp), fun hc => ?_⟩
        conv => whnf
        refine call_step hcf rfl rfl ?_
        conv => whnf
        refine ⟨(by repeat' (first | exact trivial | exact rfl | refine And.intro ?_ ?_ | ((conv => whnf); first | exact trivial | exact rfl | refine And.intro ?_ ?_ | omega))), (by repeat' (first | exact trivial | exact rfl | refine And.intro ?_ ?_ | ((conv => whnf); first | exact trivial | exact rfl | refine And.intro ?_ ?_ | omega))), ?_⟩
        conv => whnf
        refine call_step (suspectsYes_t bs ls hs hcalm) rfl rfl ?_
        conv => whnf
        refine ⟨(by repeat' (first | exact trivial | exact rfl | refine And.intro ?_ ?_ | ((conv => whnf); first | exact trivial | exact rfl | refine And.intro ?_ ?_ | omega))), (by repeat' (first | exact trivial | exact rfl | refine And.intro ?_ ?_ | ((conv => whnf); first | exact trivial | exact rfl | refine And.intro ?_ ?_ | omega))), ?_⟩
        conv => whnf
        refine call_step hsu rfl rfl ?_
        conv => whnf
        refine ⟨(by repeat' (first | exact trivial | exact rfl | refine And.intro ?_ ?_ | ((conv => whnf); first | exact trivial | exact rfl | refine And.intro ?_ ?_ | omega))), (by repeat' (first | exact trivial | exact rfl | refine And.intro ?_ ?_ | ((conv => whnf); first | exact trivial | exact rfl | refine And.intro ?_ ?_ | omega))), ?_⟩
        conv => whnf
        refine call_step (ints_t (suspF bs ls) (suspF bs ls) (by omega)) rfl rfl ?_
        conv => whnf
        refine ⟨(by repeat' (first | exact trivial | exact rfl | refine And.intro ?_ ?_ | ((conv => whnf); first | exact trivial | exact rfl | refine And.intro ?_ ?_ | omega))), (by repeat' (first | exact trivial | exact rfl | refine And.intro ?_ ?_ | ((conv => whnf); first | exact trivial | exact rfl | refine And.intro ?_ ?_ | omega))), ?_⟩
        conv => whnf
        refine call_step (refCheck_t bs ls (by omega) (by omega)) rfl rfl ?_
        conv => whnf
        refine ⟨(by repeat' (first | exact trivial | exact rfl | refine And.intro ?_ ?_ | ((conv => whnf); first | exact trivial | exact rfl | refine And.intro ?_ ?_ | omega))), (by repeat' (first | exact trivial | exact rfl | refine And.intro ?_ ?_ | ((conv => whnf); first | exact trivial | exact rfl | refine And.intro ?_ ?_ | omega))), ?_⟩
        conv => whnf
        rw [h0]
        refine ⟨fun hc => absurd hc (by simp), fun hc => ?_⟩
        conv => whnf
        refine ⟨fun hc => absurd hc (by simp), fun hc => ?_⟩
        conv => whnf
        refine ⟨fun hc => absurd hc (by simp), fun hc => ?_⟩
        conv => whnf
        refine ⟨fun hc => absurd hc (by simp), fun hc => ?_⟩
        conv => whnf
        refine call_step hag rfl rfl ?_
        conv => whnf
        refine ⟨(by repeat' (first | exact trivial | exact rfl | refine And.intro ?_ ?_ | ((conv => whnf); first | exact trivial | exact rfl | refine And.intro ?_ ?_ | omega))), (by repeat' (first | exact trivial | exact rfl | refine And.intro ?_ ?_ | ((conv => whnf); first | exact trivial | exact rfl | refine And.intro ?_ ?_ | omega))), ?_⟩
        conv => whnf
        refine ⟨fun hc => absurd hc (by simp), fun hc => ?_⟩
        conv => whnf
        refine ⟨fun hc => ?_, fun hc => absurd hc (by simp)⟩
        conv => whnf
        refine call_step hpr rfl rfl ?_
        conv => whnf
        refine ⟨(by repeat' (first | exact trivial | exact rfl | refine And.intro ?_ ?_ | ((conv => whnf); first | exact trivial | exact rfl | refine And.intro ?_ ?_ | omega))), (by repeat' (first | exact trivial | exact rfl | refine And.intro ?_ ?_ | ((conv => whnf); first | exact trivial | exact rfl | refine And.intro ?_ ?_ | omega))), ?_⟩
        conv => whnf
        refine ⟨fun hc => ?_, fun hc => absurd hc (by simp)⟩
        conv => whnf
        refine call_step hck rfl rfl ?_
        conv => whnf
        refine ⟨(by repeat' (first | exact trivial | exact rfl | refine And.intro ?_ ?_ | ((conv => whnf); first | exact trivial | exact rfl | refine And.intro ?_ ?_ | omega))), (by repeat' (first | exact trivial | exact rfl | refine And.intro ?_ ?_ | ((conv => whnf); first | exact trivial | exact rfl | refine And.intro ?_ ?_ | omega))), ?_⟩
        conv => whnf
        refine ⟨fun hc => ?_, fun hc => absurd hc (by simp)⟩
        conv => whnf
        repeat' (first | exact trivial | exact rfl | refine And.intro ?_ ?_ | ((conv => whnf); first | exact trivial | exact rfl | refine And.intro ?_ ?_ | omega))
    · have hcf := conflictErr_t bs ls (by omega) (by omega) h0
      have hsu := suspectsErr_t bs ls (by omega) (by omega) h0
      have hrs := refSuspectsErr_t bs ls (by omega) (by omega) h0
      have hrc := refCheck_t bs ls (by omega) (by omega)
      generalize checkF bs ls = c at *
      refine triple_of tB_ok Try.func6 rfl Try.call6 rfl ?_
      intro ρ w hH
      conv => whnf
      refine call_step head_t rfl rfl ?_
      conv => whnf
      refine ⟨(by repeat' (first | exact trivial | exact rfl | refine And.intro ?_ ?_ | ((conv => whnf); first | exact trivial | exact rfl | refine And.intro ?_ ?_ | omega))), (by repeat' (first | exact trivial | exact rfl | refine And.intro ?_ ?_ | ((conv => whnf); first | exact trivial | exact rfl | refine And.intro ?_ ?_ | omega))), ?_⟩
      conv => whnf
      refine call_step (few_t bs ls) rfl rfl ?_
      conv => whnf
      refine ⟨(by repeat' (first | exact trivial | exact rfl | refine And.intro ?_ ?_ | ((conv => whnf); first | exact trivial | exact rfl | refine And.intro ?_ ?_ | omega))), (by repeat' (first | exact trivial | exact rfl | refine And.intro ?_ ?_ | ((conv => whnf); first | exact trivial | exact rfl | refine And.intro ?_ ?_ | omega))), ?_⟩
      conv => whnf
      rw [hfew]
      refine ⟨fun hc => absurd hc (by simp), fun hc => ?_⟩
      conv => whnf
      refine call_step hcf rfl rfl ?_
      conv => whnf
      refine ⟨(by repeat' (first | exact trivial | exact rfl | refine And.intro ?_ ?_ | ((conv => whnf); first | exact trivial | exact rfl | refine And.intro ?_ ?_ | omega))), (by repeat' (first | exact trivial | exact rfl | refine And.intro ?_ ?_ | ((conv => whnf); first | exact trivial | exact rfl | refine And.intro ?_ ?_ | omega))), ?_⟩
      conv => whnf
      refine call_step hsu rfl rfl ?_
      conv => whnf
      refine ⟨(by repeat' (first | exact trivial | exact rfl | refine And.intro ?_ ?_ | ((conv => whnf); first | exact trivial | exact rfl | refine And.intro ?_ ?_ | omega))), (by repeat' (first | exact trivial | exact rfl | refine And.intro ?_ ?_ | ((conv => whnf); first | exact trivial | exact rfl | refine And.intro ?_ ?_ | omega))), ?_⟩
      conv => whnf
      refine call_step hrs rfl rfl ?_
      conv => whnf
      refine ⟨(by repeat' (first | exact trivial | exact rfl | refine And.intro ?_ ?_ | ((conv => whnf); first | exact trivial | exact rfl | refine And.intro ?_ ?_ | omega))), (by repeat' (first | exact trivial | exact rfl | refine And.intro ?_ ?_ | ((conv => whnf); first | exact trivial | exact rfl | refine And.intro ?_ ?_ | omega))), ?_⟩
      conv => whnf
      refine call_step (ints_t [] [] (by simp)) rfl rfl ?_
      conv => whnf
      refine ⟨(by repeat' (first | exact trivial | exact rfl | refine And.intro ?_ ?_ | ((conv => whnf); first | exact trivial | exact rfl | refine And.intro ?_ ?_ | omega))), (by repeat' (first | exact trivial | exact rfl | refine And.intro ?_ ?_ | ((conv => whnf); first | exact trivial | exact rfl | refine And.intro ?_ ?_ | omega))), ?_⟩
      conv => whnf
      refine call_step hrc rfl rfl ?_
      conv => whnf
      refine ⟨(by repeat' (first | exact trivial | exact rfl | refine And.intro ?_ ?_ | ((conv => whnf); first | exact trivial | exact rfl | refine And.intro ?_ ?_ | omega))), (by repeat' (first | exact trivial | exact rfl | refine And.intro ?_ ?_ | ((conv => whnf); first | exact trivial | exact rfl | refine And.intro ?_ ?_ | omega))), ?_⟩
      conv => whnf
      refine ⟨fun hc => absurd hc (by simp), fun hc => ?_⟩
      conv => whnf
      refine ⟨fun hc => absurd hc (by simp), fun hc => ?_⟩
      conv => whnf
      refine ⟨fun hc => absurd hc (by simp), fun hc => ?_⟩
      conv => whnf
      refine ⟨fun hcc => ?_, fun hcc => absurd (by simpa using hcc) h0⟩
      conv => whnf
      refine ⟨fun hc => ?_, fun hc => absurd hc (by simp)⟩
      conv => whnf
      repeat' (first | exact trivial | exact rfl | refine And.intro ?_ ?_ | ((conv => whnf); first | exact trivial | exact rfl | refine And.intro ?_ ?_ | omega))
  · have hfew : fewF bs ls = false := by simpa using hfew
    refine triple_of tB_ok Try.func6 rfl Try.call6 rfl ?_
    intro ρ w hH
    conv => whnf
    refine call_step head_t rfl rfl ?_
    conv => whnf
    refine ⟨(by repeat' (first | exact trivial | exact rfl | refine And.intro ?_ ?_ | ((conv => whnf); first | exact trivial | exact rfl | refine And.intro ?_ ?_ | omega))), (by repeat' (first | exact trivial | exact rfl | refine And.intro ?_ ?_ | ((conv => whnf); first | exact trivial | exact rfl | refine And.intro ?_ ?_ | omega))), ?_⟩
    conv => whnf
    refine call_step (few_t bs ls) rfl rfl ?_
    conv => whnf
    refine ⟨(by repeat' (first | exact trivial | exact rfl | refine And.intro ?_ ?_ | ((conv => whnf); first | exact trivial | exact rfl | refine And.intro ?_ ?_ | omega))), (by repeat' (first | exact trivial | exact rfl | refine And.intro ?_ ?_ | ((conv => whnf); first | exact trivial | exact rfl | refine And.intro ?_ ?_ | omega))), ?_⟩
    conv => whnf
    rw [hfew]
    refine ⟨fun hc => ?_, fun hc => absurd hc (by simp)⟩
    conv => whnf
    repeat' (first | exact trivial | exact rfl | refine And.intro ?_ ?_ | ((conv => whnf); first | exact trivial | exact rfl | refine And.intro ?_ ?_ | omega))

end Go.Proofs

