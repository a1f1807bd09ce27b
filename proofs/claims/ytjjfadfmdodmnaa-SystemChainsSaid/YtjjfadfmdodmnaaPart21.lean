/-
  A part of the proof that a law of dryweightlaw03 answers true: lemmas of a symbolic walk, plain functions, or contracts of the functions walked (Xb, Sx31, Xd). Conditions: none.
-/
import Derived.Test.YtjjfadfmdodmnaaPart20
import Derived.Test.YtjjfadfmdodmnaaPart13
import Derived.Test.YtjjfadfmdodmnaaPart07
import Derived.WideKeyRuns
set_option maxRecDepth 100000
namespace Go.Proofs
open Go.Sx

def headI (cyc : List Lnk) : Int := (cyc.getD 0 ⟨0, 0, 0, 0⟩).f

def checkCycF (bs : List (Int × Int)) (ls cyc : List Lnk) : Int :=
  if checkF bs ls ≠ 0 then checkF bs ls else if 2000 < cyc.length then 2 else if cyc.length = 0 then 8 else
  if (chainR (allF bs ls) cyc (headI cyc) (headI cyc)).2 = false ∨ 0 ≤ (chainR (allF bs ls) cyc (headI cyc) (headI cyc)).1 then 8 else 0

theorem refCheckCycle_t (bs : List (Int × Int)) (ls cyc : List Lnk) (hb : bs.length ≤ 1000000) (hl : ls.length ≤ 1000000) (hcl : cyc.length ≤ 1000000) :
    Triple Try.prog 42 [sysA bs.length ls.length, .c (.s 2 0 cyc.length 4)] ((2, false, .arr (aLink cyc)) :: sysH bs ls) 3 (iv .i64 (checkCycF bs ls cyc)) [] := by
  have hF : checkCycF bs ls cyc = if checkF bs ls ≠ 0 then checkF bs ls else if 2000 < cyc.length then 2 else if cyc.length = 0 then 8 else
    if (chainR (allF bs ls) cyc (headI cyc) (headI cyc)).2 = false ∨ 0 ≤ (chainR (allF bs ls) cyc (headI cyc) (headI cyc)).1 then 8 else 0 := rfl
  generalize checkCycF bs ls cyc = R at *
  refine triple_of tB_ok Try.func42 rfl Try.call42 rfl ?_
  intro ρ w hH
  conv => whnf
  refine call_step (refCheck_t bs ls hb hl) rfl rfl ?_
  conv => whnf
  refine ⟨(by repeat' (first | exact trivial | exact rfl | refine And.intro ?_ ?_ | ((conv => whnf); first | exact trivial | exact rfl | refine And.intro ?_ ?_ | omega))), (by repeat' (first | exact trivial | exact rfl | refine And.intro ?_ ?_ | ((conv => whnf); first | exact trivial | exact rfl | refine And.intro ?_ ?_ | omega))), ?_⟩
  conv => whnf
  by_cases hck : checkF bs ls = 0
  · rw [if_neg (by simpa using hck)] at hF
    have hs := checkF_ok.1 hck
    rw [hck]
    refine ⟨fun hc => absurd hc (by simp), fun hc => ?_⟩
    conv => whnf
    refine ⟨fun hc => ?_, fun hc => ?_⟩
    · have h3 : 2000 < cyc.length := by have := of_decide_eq_true (show decide ((2000 : Int) < cyc.length) = true from hc); omega
      rw [if_pos h3] at hF
      rw [hF]
      conv => whnf
      repeat' (first | exact trivial | exact rfl | refine And.intro ?_ ?_ | ((conv => whnf); first | exact trivial | exact rfl | refine And.intro ?_ ?_ | omega))
    have h3 : ¬ 2000 < cyc.length := by have := of_decide_eq_false (show decide ((2000 : Int) < cyc.length) = false from hc); omega
    rw [if_neg h3] at hF
    conv => whnf
    refine ⟨fun hc => ?_, fun hc => ?_⟩
    · have h4 : cyc.length = 0 := by have := (by simpa using (show ((cyc.length : Int) == 0) = true from hc) : (cyc.length : Int) = 0 ∨ cyc = []); rcases this with h | h <;> simp_all
      rw [if_pos h4] at hF
      rw [hF]
      conv => whnf
      repeat' (first | exact trivial | exact rfl | refine And.intro ?_ ?_ | ((conv => whnf); first | exact trivial | exact rfl | refine And.intro ?_ ?_ | omega))
    have h4 : 0 < cyc.length := by
      rcases Nat.eq_zero_or_pos cyc.length with h | h
      · rw [h] at hc; exact absurd hc (by simp)
      · exact h
    rw [if_neg (by omega)] at hF
    have h0 : cyc[0].f = headI cyc := by
      unfold headI
      rw [List.getD_eq_getElem?_getD, List.getElem?_eq_getElem h4]; rfl
    have hch := chained_t bs ls cyc (headI cyc) (headI cyc) hs (by omega)
    rw [← h0] at hch hF
    conv => whnf
    refine ⟨0, rfl, by omega, h4, ?_⟩
    conv => whnf
    refine ⟨0, rfl, by omega, h4, ?_⟩
    conv => whnf
    refine call_step hch rfl rfl ?_
    conv => whnf
    refine ⟨(by repeat' (first | exact trivial | exact rfl | refine And.intro ?_ ?_ | ((conv => whnf); first | exact trivial | exact rfl | refine And.intro ?_ ?_ | omega))), (by repeat' (first | exact trivial | exact rfl | refine And.intro ?_ ?_ | ((conv => whnf); first | exact trivial | exact rfl | refine And.intro ?_ ?_ | omega))), ?_⟩
    conv => whnf
    generalize chainR (allF bs ls) cyc cyc[0].f cyc[0].f = X at *
    obtain ⟨X1, X2⟩ := X
    refine ⟨fun hc => ?_, fun hc => ?_⟩
    · have h5 : X2 = false := by simpa using (show (!X2) = true from hc)
      rw [if_pos (.inl h5)] at hF
      rw [hF]
      conv => whnf
      repeat' (first | exact trivial | exact rfl | refine And.intro ?_ ?_ | ((conv => whnf); first | exact trivial | exact rfl | refine And.intro ?_ ?_ | omega))
    have h5 : X2 = true := by simpa using (show (!X2) = false from hc)
    conv => whnf
    refine ⟨fun hc => ?_, fun hc => ?_⟩
    · have h6 : 0 ≤ X1 := of_decide_eq_true (show decide (0 ≤ X1) = true from hc)
      rw [if_pos (.inr h6)] at hF
      rw [hF]
      conv => whnf
      repeat' (first | exact trivial | exact rfl | refine And.intro ?_ ?_ | ((conv => whnf); first | exact trivial | exact rfl | refine And.intro ?_ ?_ | omega))
    · have h6 : ¬ 0 ≤ X1 := of_decide_eq_false (show decide (0 ≤ X1) = false from hc)
      rw [if_neg (by simp only [h5]; rintro (h | h); cases h; exact h6 h)] at hF
      rw [hF]
      conv => whnf
      repeat' (first | exact trivial | exact rfl | refine And.intro ?_ ?_ | ((conv => whnf); first | exact trivial | exact rfl | refine And.intro ?_ ?_ | omega))
  · rw [if_pos (by simpa using hck)] at hF
    rw [hF]
    generalize checkF bs ls = c at *
    refine ⟨fun hcc => ?_, fun hcc => ?_⟩
    · conv => whnf
      repeat' (first | exact trivial | exact rfl | refine And.intro ?_ ?_ | ((conv => whnf); first | exact trivial | exact rfl | refine And.intro ?_ ?_ | omega))
    · exact absurd (by simpa using hcc) hck

theorem cycle_t (n : Nat) (arcs : List Lnk) (T : Tr) (v : Nat) (P kk : Nat → Nat) (M : Nat) (hn : n ≤ 1000) (ha : arcs.length ≤ 10000) (hl1 : T.sum.length = n + 1) (hl2 : T.there.length = n + 1) (hl3 : T.last.length = n + 1) (h : Cyc n arcs T v P kk M) :
    Triple Try.prog 136 [.c (.p 0 0 0 0), .agg [.s 2 0 (n + 1) 1, .s 3 0 (n + 1) 1, .s 4 0 (n + 1) 1], iv .i64 v]
      [(0, false, .cells [.v (.int .i64 n), .s 1 0 arcs.length 4]), (1, false, .arr (aLink arcs)), (2, false, .arr (aInt T.sum)), (3, false, .arr (aBool T.there)), (4, false, .arr (aInt T.last))] 5
      (.c (.s 5 0 (cycL n arcs kk M).reverse.length 4)) [(5, true, .arr (aLink (cycL n arcs kk M).reverse))] := by
  have hM := h.len
  have hM1 := h.pos
  have bef : ∀ m, Triple Try.prog 105 [.c (.p 0 0 0 0), .agg [.s 2 0 (n + 1) 1, .s 3 0 (n + 1) 1, .s 4 0 (n + 1) 1], iv .i64 (P m)]
      [(0, false, .cells [.v (.int .i64 n), .s 1 0 arcs.length 4]), (1, false, .arr (aLink arcs)), (2, false, .arr (aInt T.sum)), (3, false, .arr (aBool T.there)), (4, false, .arr (aInt T.last))] 5 (iv .i64 (P (m + 1))) [] := fun m =>
    before_t n arcs T.last (P m) (kk m) (P (m + 1)) T.sum T.there (n + 1) hn hl3 (h.lst m) (by have := befF_lt (h.bef m); omega) (h.bef m)
  have hP0 := h.start
  subst hP0
  refine triple_of tB_ok Try.func136 rfl Try.call136 rfl ?_
  intro ρ w hH
  conv => whnf
  refine ⟨(n : Int) + 1, wrapId (z := (n : Int) + 1) ⟨by omega, by omega⟩, ?_⟩
  conv => whnf
  refine loop_step tB_ok (G := Nat) 0 [] (fun m => [(14, iv .i64 m), (2, iv .i64 (P m))]) (fun _ => []) (fun m => m ≤ n + 1) (fun m => n + 1 - m) ?_
  conv => whnf
  refine ⟨⟨0, Nat.zero_le _, ?_⟩, ?_⟩
  · conv => whnf
    repeat' (first | exact trivial | exact rfl | refine And.intro ?_ ?_ | ((conv => whnf); first | exact trivial | exact rfl | refine And.intro ?_ ?_ | omega))
  intro m hm ρ1 t1 hρ1
  conv => whnf
  refine ⟨fun hc => ?_, fun hc => ?_⟩
  · have hlt : m < n + 1 := by have := of_decide_eq_true (show decide ((m : Int) < (n : Int) + 1) = true from hc); omega
    conv => whnf
    refine call_step (bef m) rfl rfl ?_
    conv => whnf
    refine ⟨(by repeat' (first | exact trivial | exact rfl | refine And.intro ?_ ?_ | ((conv => whnf); first | exact trivial | exact rfl | refine And.intro ?_ ?_ | omega))), (by repeat' (first | exact trivial | exact rfl | refine And.intro ?_ ?_ | ((conv => whnf); first | exact trivial | exact rfl | refine And.intro ?_ ?_ | omega))), ?_⟩
    conv => whnf
    refine ⟨(m : Int) + 1, wrapId (z := (m : Int) + 1) ⟨by omega, by omega⟩, ?_⟩
    refine ⟨m + 1, hlt, by show n + 1 - (m + 1) < n + 1 - m; omega, ?_⟩
    conv => whnf
    refine ⟨rfl, ?_⟩
    conv => whnf
    repeat' (first | exact trivial | exact rfl | refine And.intro ?_ ?_ | ((conv => whnf); first | exact trivial | exact rfl | refine And.intro ?_ ?_ | omega))
  have hme : m = n + 1 := by have := of_decide_eq_false (show decide ((m : Int) < (n : Int) + 1) = false from hc); omega
  subst hme
  conv => whnf
  refine loop_step tB_ok (G := Nat × List Lnk) 1 [] (fun g => [(8, iv .i64 (P (n + 1 + g.1))), (7, .c (.s 6 0 g.2.length 4))]) (fun g => [(6, true, .arr (aLink g.2))]) (fun g => g.1 < M ∧ g.2 = cycL n arcs kk g.1) (fun g => M - g.1) ?_
  conv => whnf
  refine ⟨⟨(0, []), ⟨hM1, rfl⟩, ?_⟩, ?_⟩
  · conv => whnf
    repeat' (first | exact trivial | exact rfl | refine And.intro ?_ ?_ | ((conv => whnf); first | exact trivial | exact rfl | refine And.intro ?_ ?_ | omega))
  rintro ⟨i, out⟩ ⟨hi, hout⟩ ρ2 t2 hρ2
  have hi : i < M := hi
  have hout : out = cycL n arcs kk i := hout
  have hol : out.length = i := by rw [hout]; simp [cycL]
  dsimp only
  have hle := h.le (n + 1 + i)
  have hla := h.lst (n + 1 + i)
  have hbe := bef (n + 1 + i)
  have hkl := befF_lt (h.bef (n + 1 + i))
  obtain ⟨hpl, hpe⟩ := List.getElem?_eq_some_iff.1 hla
  have hdiv : IntKind.i64.wrap (Int.tdiv T.last[P (n + 1 + i)] 2) = ((kk (n + 1 + i) / 2 : Nat) : Int) := by rw [hpe]; exact wrapId (z := ((kk (n + 1 + i) / 2 : Nat) : Int)) ⟨by omega, by omega⟩
  have hst := cycL_succ n arcs kk i
  rw [← hout, List.getD_eq_getElem?_getD, List.getElem?_eq_getElem hkl, Option.getD_some] at hst
  have hper := h.per
  have hlow := h.low (i + 1) (by omega)
  have hnext : P (n + 1 + i + 1) = P (n + 1 + (i + 1)) := rfl
  have hfin : i + 1 = M → cycL n arcs kk M = cycL n arcs kk (i + 1) := fun he => by rw [he]
  obtain ⟨j, hj⟩ : ∃ j, j = kk (n + 1 + i) / 2 := ⟨_, rfl⟩
  simp only [← hj] at hdiv hkl hst
  clear hla
  conv => whnf
  refine ⟨P (n + 1 + i), rfl, by omega, hpl, ?_⟩
  conv => whnf
  refine ⟨by decide, (j : Int), hdiv, ?_⟩
  conv => whnf
  refine ⟨j, rfl, hkl, hkl, ?_⟩
  conv => whnf
  refine bs_step tB_ok (aLink [arcs[j]]) rfl rfl ?_
  conv => whnf
  refine ⟨⟨rfl, ⟨rfl, rfl, rfl, rfl, trivial⟩⟩, ?_⟩
  conv => whnf
  refine app_step tB_ok (aLink out) [arcs[j]] (fun _ => rfl) rfl rfl rfl rfl ?_
  conv => whnf
  refine ⟨⟨rfl, rfl, Nat.le_refl _, Nat.le_refl _, by show (out.length + 1) * 33 ≤ _; omega⟩, ?_⟩
  conv => whnf
  refine call_step hbe rfl rfl ?_
  conv => whnf
  refine ⟨(by repeat' (first | exact trivial | exact rfl | refine And.intro ?_ ?_ | ((conv => whnf); first | exact trivial | exact rfl | refine And.intro ?_ ?_ | omega))), (by repeat' (first | exact trivial | exact rfl | refine And.intro ?_ ?_ | ((conv => whnf); first | exact trivial | exact rfl | refine And.intro ?_ ?_ | omega))), ?_⟩
  conv => whnf
  refine ⟨fun hc => ?_, fun hc => ?_⟩
  · have he : P (n + 1 + i + 1) = P (n + 1) := by
      have := (show ((P (n + 1 + i + 1) : Int) == ((P (n + 1) : Nat) : Int)) = true from hc)
      simp at this; omega
    have hie : i + 1 = M := by
      rcases Nat.lt_or_ge (i + 1) M with hlt | hge
      · exact absurd he (hlow hlt)
      · omega
    have hfin := hfin hie
    rw [hst] at hfin
    have hrv : Triple Try.prog 106 [.c (.s 0 0 (out.length + 1) 4)] [(0, true, .arr (aLink (List.take out.length out ++ List.take 1 (List.drop 0 [arcs[j]]))))] 1 (.tup []) [(0, true, .arr (aLink (out ++ [arcs[j]]).reverse))] := by
      have h1 : (out ++ [arcs[j]]).length = out.length + 1 := by simp
      have := reverse_t (out ++ [arcs[j]]) (by omega)
      rw [app1]
      rwa [h1] at this
    conv => whnf
    rw [hfin]
    refine call_step hrv rfl rfl ?_
    conv => whnf
    refine ⟨(by repeat' (first | exact trivial | exact rfl | refine And.intro ?_ ?_ | ((conv => whnf); first | exact trivial | exact rfl | refine And.intro ?_ ?_ | omega))), (by repeat' (first | exact trivial | exact rfl | refine And.intro ?_ ?_ | ((conv => whnf); first | exact trivial | exact rfl | refine And.intro ?_ ?_ | omega))), ?_⟩
    conv => whnf
    repeat' (first | exact trivial | exact rfl | refine And.intro ?_ ?_ | ((conv => whnf); first | exact trivial | exact rfl | refine And.intro ?_ ?_ | omega))
    all_goals simp
  · have he : P (n + 1 + i + 1) ≠ P (n + 1) := by
      have := (show ((P (n + 1 + i + 1) : Int) == ((P (n + 1) : Nat) : Int)) = false from hc)
      simp at this; omega
    have hlt : i + 1 < M := by
      rcases Nat.lt_or_ge (i + 1) M with hlt | hge
      · exact hlt
      · exfalso
        have : i + 1 = M := by omega
        rw [hnext, this] at he
        exact he hper
    conv => whnf
    refine ⟨(i + 1, out ++ [arcs[j]]), ⟨hlt, hst.symm⟩, by show M - (i + 1) < M - i; omega, ?_⟩
    conv => whnf
    refine ⟨rfl, ?_⟩
    conv => whnf
    repeat' (first | exact trivial | exact rfl | refine And.intro ?_ ?_ | ((conv => whnf); first | exact trivial | exact rfl | refine And.intro ?_ ?_ | omega))
    all_goals first | exact (congrArg aLink app1 : _) | simp

theorem clash_t (n : Nat) (arcs : List Lnk) (v : Nat) (P kk : Nat → Nat) (M : Nat) (hn : n ≤ 1000) (hl : arcs.length ≤ 10000) (hok : ∀ l ∈ arcs, ArcOK n l) (hch : (shortF n noRev arcs n).2 = ((v : Nat) : Int)) (h : Cyc n arcs (shortF n noRev arcs n).1 v P kk M) :
    Triple Try.prog 96 [.c (.p 0 0 0 0)] (graphH n arcs) 2 (.tup [.inl (.s 2 0 (cycL n arcs kk M).reverse.length 4), .inl (.b true)]) [(2, true, .arr (aLink (cycL n arcs kk M).reverse))] := by
  have hlen := shortF_len n noRev arcs n hok
  obtain ⟨hl1, hl2, hl3⟩ := hlen
  refine triple_of tB_ok Try.func96 rfl Try.call96 rfl ?_
  intro ρ w hH
  conv => whnf
  refine call_step (plain_t n arcs n hn hl hok (Nat.le_refl _)) rfl rfl ?_
  conv => whnf
  refine ⟨(by repeat' (first | exact trivial | exact rfl | refine And.intro ?_ ?_ | ((conv => whnf); first | exact trivial | exact rfl | refine And.intro ?_ ?_ | omega))), (by repeat' (first | exact trivial | exact rfl | refine And.intro ?_ ?_ | ((conv => whnf); first | exact trivial | exact rfl | refine And.intro ?_ ?_ | omega))), ?_⟩
  conv => whnf
  rw [hch]
  generalize (shortF n noRev arcs n).1 = T at *
  refine ⟨fun hc => ?_, fun hc => ?_⟩
  · have := (show ((v : Int) == -1) = true from hc)
    simp at this
  conv => whnf
  refine call_step (cycle_t n arcs T v P kk M hn hl hl1 hl2 hl3 h) rfl rfl ?_
  conv => whnf
  refine ⟨(by repeat' (first | exact trivial | exact rfl | refine And.intro ?_ ?_ | ((conv => whnf); first | exact trivial | exact rfl | refine And.intro ?_ ?_ | omega))), (by repeat' (first | exact trivial | exact rfl | refine And.intro ?_ ?_ | ((conv => whnf); first | exact trivial | exact rfl | refine And.intro ?_ ?_ | omega))), ?_⟩
  conv => whnf
  repeat' (first | exact trivial | exact rfl | refine And.intro ?_ ?_ | ((conv => whnf); first | exact trivial | exact rfl | refine And.intro ?_ ?_ | omega))

/-- Whether a cycle is found in a system without the links of a reading. -/
def clashB (bs : List (Int × Int)) (ls : List Lnk) (k : Int) : Bool := decide ((shortF bs.length noRev (graphF bs ls k) bs.length).2 ≠ -1)

theorem susp1_t (bs : List (Int × Int)) (ls : List Lnk) (id : Int) (hs : SysOK bs ls) :
    Triple Try.prog 97 [iv .i64 id, .c (.p 1 0 0 0)]
      [(1, false, .cells [.s 2 0 bs.length 2, .s 3 0 ls.length 4]), (2, false, .arr (aSpan bs)), (3, false, .arr (aLink ls))] 4
      (bv (clashB bs ls id)) [] := by
  have hnb := hs.nb
  have hnl := hs.nl
  have hgl := graphF_len hs id
  by_cases h : (shortF bs.length noRev (graphF bs ls id) bs.length).2 = -1
  · have e : clashB bs ls id = false := decide_eq_false (by simp [h])
    rw [e]
    refine triple_of tB_ok Try.func97 rfl Try.call97 rfl ?_
    intro ρ w hH
    conv => whnf
    refine call_step (graphOf_t bs ls id (by omega) hs.boxB (by omega)) rfl rfl ?_
    conv => whnf
    refine ⟨(by repeat' (first | exact trivial | exact rfl | refine And.intro ?_ ?_ | ((conv => whnf); first | exact trivial | exact rfl | refine And.intro ?_ ?_ | omega))), (by repeat' (first | exact trivial | exact rfl | refine And.intro ?_ ?_ | ((conv => whnf); first | exact trivial | exact rfl | refine And.intro ?_ ?_ | omega))), ?_⟩
    conv => whnf
    refine call_step (clashNone_t bs.length (graphF bs ls id) (by omega) (by omega) (graphF_ok hs id) h) rfl rfl ?_
    conv => whnf
    refine ⟨(by repeat' (first | exact trivial | exact rfl | refine And.intro ?_ ?_ | ((conv => whnf); first | exact trivial | exact rfl | refine And.intro ?_ ?_ | omega))), (by repeat' (first | exact trivial | exact rfl | refine And.intro ?_ ?_ | ((conv => whnf); first | exact trivial | exact rfl | refine And.intro ?_ ?_ | omega))), ?_⟩
    conv => whnf
    repeat' (first | exact trivial | exact rfl | refine And.intro ?_ ?_ | ((conv => whnf); first | exact trivial | exact rfl | refine And.intro ?_ ?_ | omega))
  · have e : clashB bs ls id = true := decide_eq_true h
    obtain ⟨v, P, kk, M, h1, h2, h3⟩ := cyc_of (graphF_ok hs id) (Nat.le_refl _) h
    rw [e]
    refine triple_of tB_ok Try.func97 rfl Try.call97 rfl ?_
    intro ρ w hH
    conv => whnf
    refine call_step (graphOf_t bs ls id (by omega) hs.boxB (by omega)) rfl rfl ?_
    conv => whnf
    refine ⟨(by repeat' (first | exact trivial | exact rfl | refine And.intro ?_ ?_ | ((conv => whnf); first | exact trivial | exact rfl | refine And.intro ?_ ?_ | omega))), (by repeat' (first | exact trivial | exact rfl | refine And.intro ?_ ?_ | ((conv => whnf); first | exact trivial | exact rfl | refine And.intro ?_ ?_ | omega))), ?_⟩
    conv => whnf
    refine call_step (clash_t bs.length (graphF bs ls id) v P kk M (by omega) (by omega) (graphF_ok hs id) h1 h3) rfl rfl ?_
    conv => whnf
    refine ⟨(by repeat' (first | exact trivial | exact rfl | refine And.intro ?_ ?_ | ((conv => whnf); first | exact trivial | exact rfl | refine And.intro ?_ ?_ | omega))), (by repeat' (first | exact trivial | exact rfl | refine And.intro ?_ ?_ | ((conv => whnf); first | exact trivial | exact rfl | refine And.intro ?_ ?_ | omega))), ?_⟩
    conv => whnf
    repeat' (first | exact trivial | exact rfl | refine And.intro ?_ ?_ | ((conv => whnf); first | exact trivial | exact rfl | refine And.intro ?_ ?_ | omega))

theorem conflictYes_t (bs : List (Int × Int)) (ls : List Lnk) (v : Nat) (P kk : Nat → Nat) (M : Nat) (hs : SysOK bs ls) (hch : (shortF bs.length noRev (graphF bs ls 0) bs.length).2 = ((v : Nat) : Int)) (h : Cyc bs.length (graphF bs ls 0) (shortF bs.length noRev (graphF bs ls 0) bs.length).1 v P kk M) :
    Triple Try.prog 36 [sysA bs.length ls.length] (sysH bs ls) 2 (.tup [.inl (.s 2 0 (cycL bs.length (graphF bs ls 0) kk M).reverse.length 4), .inl (.b true), .inl (.v (.int .i64 0))]) [(2, true, .arr (aLink (cycL bs.length (graphF bs ls 0) kk M).reverse))] := by
  have hnb := hs.nb
  have hnl := hs.nl
  have hgl := graphF_len hs 0
  refine triple_of tB_ok Try.func36 rfl Try.call36 rfl ?_
  intro ρ w hH
  conv => whnf
  refine call_step (check_t bs ls (by omega) (by omega)) rfl rfl ?_
  conv => whnf
  refine ⟨(by repeat' (first | exact trivial | exact rfl | refine And.intro ?_ ?_ | ((conv => whnf); first | exact trivial | exact rfl | refine And.intro ?_ ?_ | omega))), (by repeat' (first | exact trivial | exact rfl | refine And.intro ?_ ?_ | ((conv => whnf); first | exact trivial | exact rfl | refine And.intro ?_ ?_ | omega))), ?_⟩
  conv => whnf
  rw [checkF_ok.2 hs]
  refine ⟨fun hc => absurd hc (by simp), fun hc => ?_⟩
  conv => whnf
  refine call_step (graphOf_t bs ls 0 (by omega) hs.boxB (by omega)) rfl rfl ?_
  conv => whnf
  refine ⟨(by repeat' (first | exact trivial | exact rfl | refine And.intro ?_ ?_ | ((conv => whnf); first | exact trivial | exact rfl | refine And.intro ?_ ?_ | omega))), (by repeat' (first | exact trivial | exact rfl | refine And.intro ?_ ?_ | ((conv => whnf); first | exact trivial | exact rfl | refine And.intro ?_ ?_ | omega))), ?_⟩
  conv => whnf
  refine call_step (clash_t bs.length (graphF bs ls 0) v P kk M (by omega) (by omega) (graphF_ok hs 0) hch h) rfl rfl ?_
  conv => whnf
  refine ⟨(by repeat' (first | exact trivial | exact rfl | refine And.intro ?_ ?_ | ((conv => whnf); first | exact trivial | exact rfl | refine And.intro ?_ ?_ | omega))), (by repeat' (first | exact trivial | exact rfl | refine And.intro ?_ ?_ | ((conv => whnf); first | exact trivial | exact rfl | refine And.intro ?_ ?_ | omega))), ?_⟩
  conv => whnf
  repeat' (first | exact trivial | exact rfl | refine And.intro ?_ ?_ | ((conv => whnf); first | exact trivial | exact rfl | refine And.intro ?_ ?_ | omega))

theorem conflictErr_t (bs : List (Int × Int)) (ls : List Lnk) (hb : bs.length ≤ 1000000) (hl : ls.length ≤ 1000000) (hc : checkF bs ls ≠ 0) :
    Triple Try.prog 36 [sysA bs.length ls.length] (sysH bs ls) 2 (.tup [.inl (.v (.slice none 0 0)), .inl (.b false), .inl (.v (.int .i64 (checkF bs ls)))]) [] := by
  refine triple_of tB_ok Try.func36 rfl Try.call36 rfl ?_
  intro ρ w hH
  conv => whnf
  refine call_step (check_t bs ls hb hl) rfl rfl ?_
  conv => whnf
  refine ⟨(by repeat' (first | exact trivial | exact rfl | refine And.intro ?_ ?_ | ((conv => whnf); first | exact trivial | exact rfl | refine And.intro ?_ ?_ | omega))), (by repeat' (first | exact trivial | exact rfl | refine And.intro ?_ ?_ | ((conv => whnf); first | exact trivial | exact rfl | refine And.intro ?_ ?_ | omega))), ?_⟩
  conv => whnf
  generalize checkF bs ls = c at *
  refine ⟨fun hcc => ?_, fun hcc => ?_⟩
  · conv => whnf
    repeat' (first | exact trivial | exact rfl | refine And.intro ?_ ?_ | ((conv => whnf); first | exact trivial | exact rfl | refine And.intro ?_ ?_ | omega))
  · exact absurd (by simpa using hcc) hc

end Go.Proofs

namespace Go
namespace Sx

/-! ### A set of rows of integers that the call makes: a map, by structs, to bools, all of which are true -/

theorem aggI_inj {a b : List Int} (h : aggI a = aggI b) : a = b := by
  unfold aggI at h
  simp only [Value.agg.injEq] at h
  have h2 : a.map (Value.int .i64) = b.map (Value.int .i64) := by
    have := congrArg Array.toList h
    simpa using this
  exact (List.map_inj_right (fun x y hxy => by cases hxy; rfl)).1 h2

theorem run_checkKey_ints {P : Program} {t : TypeId} (em : Bool) (m : Nat) (hu : P.underlying t = some (.struct (P.fieldsOf t))) (hf : intFs P (P.fieldsOf t).toList 0 = true) (xs : List Int) (hn : xs.length = (P.fieldsOf t).toList.length) (w : World) :
    (Instr.checkKey em (m + 1 + 1) t (aggI xs)).run P w = .ok () w := by
  rw [Instr.checkKey]
  unfold aggI
  simp only [Sem.run_bind, run_underlying hu, Result.andThen_ok]
  rw [← Array.forIn_toList]
  have hj : xs.length = 0 + (P.fieldsOf t).toList.length := by omega
  clear hn hu
  generalize (P.fieldsOf t).toList = L at hf hj
  generalize (0 : Nat) = j at hf hj
  induction L generalizing j with
  | nil => simp
  | cons f L ih =>
    simp only [intFs, Bool.and_eq_true] at hf
    obtain ⟨h1, h2, h3, h4⟩ := hf
    have h1 : f.name ≠ "_" := by simpa using h1
    have h2 : f.offset = j := by simpa using h2
    have h3 := isI64_eq h3
    simp only [List.length_cons] at hj
    have hjx : j < xs.length := by omega
    have hp := run_part_int (P := P) (t := f.type) (cs := (xs.map (Value.int .i64)).toArray) (off := j) (v := .int .i64 xs[j]) w h3 (by simp [hjx])
    have hc : (Instr.checkKey em (m + 1) f.type (.int .i64 xs[j])).run P w = .ok () w := by simp [Instr.checkKey, run_underlying h3]
    have := ih (j + 1) h4 (by omega)
    simp only [List.forIn_cons, if_pos h1, Sem.run_bind, h2, hp, Result.andThen_ok, hc, Sem.run_pure]
    exact this

theorem sameBits_ints (m : Nat) (xs : List Int) : Instr.sameBits (m + 1) (aggI xs) (aggI xs) = true := by
  unfold aggI
  simp only [Instr.sameBits, Bool.and_eq_true, beq_self_eq_true, true_and]
  have : ∀ l : List Int, ((l.map (Value.int .i64)).zip (l.map (Value.int .i64))).all (fun (x, y) => Instr.sameBits m x y) = true := by
    intro l
    induction l with
    | nil => rfl
    | cons a l ih =>
      simp only [List.map_cons, List.zip_cons_cons, List.all_cons, ih, Bool.and_true]
      cases m <;> simp [Instr.sameBits]
  simpa using this xs

theorem findAsking_ints {P : Program} {t n : Nat} {L : List (Nat × Nat)} (hE : EqOK P L) (hm : (t, n) ∈ L) (ks : List Int) (hk : ks.length = n) (w : World) : ∀ (l : List MapEntry) (i : Nat), (∀ e ∈ l, ∃ ks' : List Int, ks'.length = n ∧ e.key = aggI ks') →
    ((Instr.findAsking t (aggI ks) l i).run P w = .ok none w ∧ ∀ e ∈ l, e.key ≠ aggI ks) ∨
    (∃ j e, (Instr.findAsking t (aggI ks) l i).run P w = .ok (some (i + j, e.val)) w ∧ l[j]? = some e ∧ e.key = aggI ks)
  | [], i, _ => .inl ⟨by simp [Instr.findAsking], by simp⟩
  | e :: l, i, h => by
    obtain ⟨ks', hl, he⟩ := h e (by simp)
    have heq := (hE t n hm ks ks' hk hl w (.tmp 0) (.tmp 0)).2.2
    rw [← he] at heq
    by_cases hkk : ks = ks'
    · refine .inr ⟨0, e, ?_, rfl, by rw [he, hkk]⟩
      have hb : (ks == ks') = true := by simpa using hkk
      simp [Instr.findAsking, Sem.run_bind, heq, hb]
    · have hb : (ks == ks') = false := by simpa using hkk
      have hne : e.key ≠ aggI ks := by rw [he]; intro h; exact hkk (aggI_inj h).symm
      have hrun : (Instr.findAsking t (aggI ks) (e :: l) i).run P w = (Instr.findAsking t (aggI ks) l (i + 1)).run P w := by
        simp [Instr.findAsking, Sem.run_bind, heq, hb]
      rcases findAsking_ints hE hm ks hk w l (i + 1) (fun e he => h e (by simp [he])) with ⟨h1, h2⟩ | ⟨j, e', h1, h2, h3⟩
      · refine .inl ⟨by rw [hrun, h1], fun e' he' => ?_⟩
        rcases List.mem_cons.1 he' with rfl | he'
        · exact hne
        · exact h2 e' he'
      · exact .inr ⟨j + 1, e', by rw [hrun, h1, show i + 1 + j = i + (j + 1) from by omega], by simpa using h2, h3⟩

def SetKObj (n : Nat) (S : List (List Int)) (x : Obj) : Prop :=
  ∃ es clock, x = .map es clock ∧ (∀ e ∈ es.toList, ∃ ks, ks ∈ S ∧ e.key = aggI ks ∧ e.val = .bool true) ∧ (∀ ks ∈ S, ∃ e ∈ es.toList, e.key = aggI ks) ∧ ∀ ks ∈ S, ks.length = n

def setK (n : Nat) (S : List (List Int)) : SO := .raw (SetKObj n S)

theorem mkmapS_step {cx : Cx} {o : Oper} {e : Env} {H : Heap} {nx : Nat} {K : Eff → Prop} {t : TypeId} (n : Nat) (ho : o.op = .makeMap t none)
    (h : K ⟨.c (.m nx), [], [(nx, true, setK n [])], [nx]⟩) : ∃ F, CallOK cx o e H nx F ∧ K F := by
  refine ⟨_, ⟨loc_new (by simp [ho]) (by rw [SV.below_c]; intro j hj; simp [SC.nms] at hj; omega) ?_ ?_, fun j hj => by simp at hj; subst hj; simp⟩, h⟩
  · intro n _ j hj
    simp [setK, SO.uses] at hj
  · intro ρ a w _ _
    refine ⟨.map (some w.heap.size), .map #[] 0, 0, ?_, ?_, ?_⟩
    · simp only [execOp, ho, Sem.run_bind, Option.mapM_none]
      rfl
    · simp only [SV.rel, SC.rel, upd_eq]
    · refine ⟨trivial, (fun i j c hc => by simp [setK, SO.cell?] at hc), (fun _ hx => absurd rfl (hx _)), (fun _ => by rw [upd_eq]), (fun Ψ hΨ => ?_)⟩
      cases hΨ
      rw [upd_eq]
      exact ⟨_, push_new w _, #[], 0, rfl, by simp, by simp, by simp⟩

def intsSC : List SC → Option (List Int)
  | [] => some []
  | .v (.int .i64 z) :: r => match intsSC r with
    | some l => some (z :: l)
    | none => none
  | _ :: _ => none

theorem intsSC_rel {ρ : Asg} : ∀ {l : List SC} {ks : List Int} {vs : List Value}, intsSC l = some ks → relL ρ l vs → vs = ks.map (Value.int .i64)
  | [], ks, vs, h, hr => by
    cases h
    cases vs with
    | nil => rfl
    | cons v vs => exact hr.elim
  | c :: r, ks, [], _, hr => hr.elim
  | c :: r, ks, v :: vs, h, hr => by
    cases c with
    | v x =>
      cases x with
      | int k z =>
        cases k <;> simp only [intsSC] at h <;> try (cases h; done)
        cases hl : intsSC r with
        | none => rw [hl] at h; cases h
        | some l =>
          rw [hl] at h
          cases h
          have h1 : v = .int .i64 z := hr.1
          rw [h1, intsSC_rel hl hr.2]; rfl
      | _ => simp [intsSC] at h
    | _ => simp [intsSC] at h

def lookupSK (B : Tabs) (et0 : TypeId) (kt0 n : Nat) (t : TypeId) (x y : SV) (H : Heap) (K : Eff → Prop) : Prop :=
  match lookT B.T t, x, y with
  | some ⟨.map kt et, _, _, _⟩, .c (.m k), .agg l => (match look H k, intsSC l with
    | some (true, .raw Φ), some ks => bif Nat.beq et et0 && (Nat.beq kt kt0 && Nat.beq (lenL ks) n) then
        ∃ S, Φ = SetKObj n S ∧ K ⟨.c (.v (.bool (decide (ks ∈ S)))), [k], [], []⟩ else False
    | _, _ => False)
  | _, _, _ => False
where lenL : List Int → Nat
  | [] => 0
  | _ :: r => lenL r + 1

theorem lenL_eq (l : List Int) : lookupSK.lenL l = l.length := by induction l <;> simp [lookupSK.lenL, *]

theorem lookupS_step {cx : Cx} {B : Tabs} (hB : TabsOK cx.P B) {o : Oper} {e : Env} {H : Heap} {nx : Nat} {K : Eff → Prop} {t : TypeId} {x y : Operand} (et0 : TypeId) (kt0 n : Nat) (hz0 : ∀ w, (zeroValue et0).run cx.P w = .ok (.bool false) w)
    (hu : cx.P.underlying kt0 = some (.struct (cx.P.fieldsOf kt0))) (hf : intFs cx.P (cx.P.fieldsOf kt0).toList 0 = true) (hfn : (cx.P.fieldsOf kt0).toList.length = n) (hE : (kt0, n) ∈ B.E) (ho : o.op = .lookup t x y false)
    (h : lookupSK B et0 kt0 n t (ev e x) (ev e y) H K) : ∃ F, CallOK cx o e H nx F ∧ K F := by
  have hx : x ∈ o.op.operands.toList := by simp [ho, Op.operands]
  have hy : y ∈ o.op.operands.toList := by simp [ho, Op.operands]
  unfold lookupSK at h
  split at h
  · rename_i kt et s0 b0 z0 k l ht hex hey
    split at h
    · rename_i Φ ks hlk hks
      obtain ⟨he0, S, rfl, hK⟩ := bif_and h
      simp only [Bool.and_eq_true] at he0
      obtain ⟨he0, he1, he2⟩ := he0
      have he0 := Nat.eq_of_beq_eq_true he0
      have he1 := Nat.eq_of_beq_eq_true he1
      have he2 := Nat.eq_of_beq_eq_true he2
      rw [lenL_eq] at he2
      subst he0; subst he1
      refine ⟨_, ⟨?_, fun j hj => by cases hj⟩, hK⟩
      intro ρ s a w hs hr hk _ hdst KK Q hKK
      have hl1 : look s.H k = some (true, .raw (SetKObj n S)) := by rw [hk k (by simp)]; exact hlk
      have hx1 := reads_fit hx (fun t ht => by rw [← hr t ht]; exact hs.env t)
      have hy1 := reads_fit hy (fun t ht => by rw [← hr t ht]; exact hs.env t)
      rw [hex] at hx1; rw [hey] at hy1
      simp only [SV.rel, SC.rel] at hx1 hy1
      obtain ⟨cs, hycs, hyr⟩ := hy1
      have hcs : cs = (ks.map (Value.int .i64)).toArray := by have := intsSC_rel hks hyr; rw [← this]
      have hya : a.eval y = aggI ks := by rw [hycs, hcs]; rfl
      obtain ⟨ob, hob, es, clock, rfl, hes, hS, hSn⟩ := (hs.heap.reg k true _ hl1).keys _ rfl
      have hall : ∀ x ∈ es.toList, ∃ ks' : List Int, ks'.length = n ∧ x.key = aggI ks' := fun x hx => by obtain ⟨ks', h1, h2, _⟩ := hes x hx; exact ⟨ks', hSn _ h1, h2⟩
      have hchk := fun em => run_checkKey_ints (P := cx.P) em 9998 hu hf ks (by omega) w
      have hwide : (match cx.P.underlying kt with | some (.array _ _) | some (.struct _) => true | _ => false) = true := by rw [hu]
      have hrun : (execOp a.eval o).run cx.P w = .ok (.value (.bool (decide (ks ∈ S)))) w := by
        rcases findAsking_ints hB.E hE ks he2 w es.toList 0 hall with ⟨h1, h2⟩ | ⟨j, e', h1, h2, h3⟩
        · have hn : ks ∉ S := fun hn => by obtain ⟨e', he, hk'⟩ := hS ks hn; exact h2 e' he hk'
          simp only [execOp, ho, Instr.lookup, hx1, hya, Sem.run_bind, run_underlying (und_map hB ht), Result.andThen_ok, MapKept.run_getObj_map hob, Sem.run_pure,
            hchk, run_findKey_eq w hwide, h1, hz0]
          simp [hn]
        · have hm := List.mem_of_getElem? h2
          obtain ⟨ks', g1, g2, g3⟩ := hes e' hm
          have hn : ks ∈ S := by rw [aggI_inj (h3.symm.trans g2)]; exact g1
          simp only [execOp, ho, Instr.lookup, hx1, hya, Sem.run_bind, run_underlying (und_map hB ht), Result.andThen_ok, MapKept.run_getObj_map hob, Sem.run_pure,
            hchk, run_findKey_eq w hwide, h1, g3]
          simp [hn]
      refine wpIn_of_value (by simp [ho]) hrun (hKK ρ _ w ?_ (fun _ _ => rfl))
      exact hs.putO hdst rfl (by rw [SV.below_c]; intro j hj; cases hj)
    · exact h.elim
  · exact h.elim

def mapUpSK (B : Tabs) (kt0 n : Nat) (t : TypeId) (x y z : SV) (H : Heap) (K : Eff → Prop) : Prop :=
  match lookT B.T t, x, y with
  | some ⟨.map kt _, _, _, _⟩, .c (.m k), .agg l => (match look H k, intsSC l with
    | some (true, .raw Φ), some ks => bif truS z && (Nat.beq kt kt0 && Nat.beq (lookupSK.lenL ks) n) then
        ∃ S, Φ = SetKObj n S ∧ K ⟨.c .junk, [k], [(k, true, setK n (S ++ [ks]))], []⟩ else False
    | _, _ => False)
  | _, _, _ => False

theorem mapUpS_step {cx : Cx} {B : Tabs} (hB : TabsOK cx.P B) {o : Oper} {e : Env} {H : Heap} {nx : Nat} {K : Eff → Prop} {t : TypeId} {x y z : Operand} (kt0 n : Nat)
    (hu : cx.P.underlying kt0 = some (.struct (cx.P.fieldsOf kt0))) (hf : intFs cx.P (cx.P.fieldsOf kt0).toList 0 = true) (hfn : (cx.P.fieldsOf kt0).toList.length = n) (hE : (kt0, n) ∈ B.E) (ho : o.op = .mapUpdate t x y z)
    (h : mapUpSK B kt0 n t (ev e x) (ev e y) (ev e z) H K) : ∃ F, CallOK cx o e H nx F ∧ K F := by
  have hx : x ∈ o.op.operands.toList := by simp [ho, Op.operands]
  have hy : y ∈ o.op.operands.toList := by simp [ho, Op.operands]
  have hz : z ∈ o.op.operands.toList := by simp [ho, Op.operands]
  unfold mapUpSK at h
  split at h
  · rename_i kt et s0 b0 z0 k l ht hex hey
    split at h
    · rename_i Φ ks hlk hks
      obtain ⟨he0, S, rfl, hK⟩ := bif_and h
      simp only [Bool.and_eq_true] at he0
      obtain ⟨htr, he1, he2⟩ := he0
      have he1 := Nat.eq_of_beq_eq_true he1
      have he2 := Nat.eq_of_beq_eq_true he2
      rw [lenL_eq] at he2
      subst he1
      refine ⟨_, ⟨?_, fun j hj => by cases hj⟩, hK⟩
      intro ρ s a w hs hr hk _ hdst KK Q hKK
      have hl1 : look s.H k = some (true, .raw (SetKObj n S)) := by rw [hk k (by simp)]; exact hlk
      have hx1 := reads_fit hx (fun t ht => by rw [← hr t ht]; exact hs.env t)
      have hy1 := reads_fit hy (fun t ht => by rw [← hr t ht]; exact hs.env t)
      have hz1 := reads_fit hz (fun t ht => by rw [← hr t ht]; exact hs.env t)
      rw [hex] at hx1; rw [hey] at hy1
      simp only [SV.rel, SC.rel] at hx1 hy1
      have hz1 := truS_rel htr hz1
      obtain ⟨cs, hycs, hyr⟩ := hy1
      have hcs : cs = (ks.map (Value.int .i64)).toArray := by have := intsSC_rel hks hyr; rw [← this]
      have hya : a.eval y = aggI ks := by rw [hycs, hcs]; rfl
      obtain ⟨ob, hob, es, clock, rfl, hes, hS, hSn⟩ := (hs.heap.reg k true _ hl1).keys _ rfl
      have hall : ∀ x ∈ es.toList, ∃ ks' : List Int, ks'.length = n ∧ x.key = aggI ks' := fun x hx => by obtain ⟨ks', h1, h2, _⟩ := hes x hx; exact ⟨ks', hSn _ h1, h2⟩
      have hchk := fun em => run_checkKey_ints (P := cx.P) em 9998 hu hf ks (by omega) w
      have hwide : (match cx.P.underlying kt with | some (.array _ _) | some (.struct _) => true | _ => false) = true := by rw [hu]
      have hlenS : ∀ x ∈ S ++ [ks], x.length = n := by
        intro x hx
        rcases List.mem_append.1 hx with hx | hx
        · exact hSn x hx
        · simp at hx; rw [hx]; exact he2
      have hrun : ∃ es' clock', (execOp a.eval o).run cx.P w = .ok .skip (w.putObj (ρ k).blk (.map es' clock')) ∧ SetKObj n (S ++ [ks]) (.map es' clock') := by
        rcases findAsking_ints hB.E hE ks he2 w es.toList 0 hall with ⟨h1, h2⟩ | ⟨j, e', h1, h2, h3⟩
        · refine ⟨es.push { key := aggI ks, val := .bool true, born := clock }, clock + 1, ?_, _, _, rfl, ?_, ?_, hlenS⟩
          · simp only [execOp, ho, Instr.mapUpdate, hx1, hya, hz1, Sem.run_bind, run_underlying (und_map hB ht), Result.andThen_ok, MapKept.run_getObj_map hob, Sem.run_pure,
              hchk, run_findKey_eq w hwide, h1, MapKept.run_setObj_map _ hob]
            rfl
          · intro e' he
            simp only [Array.toList_push, List.mem_append, List.mem_singleton] at he
            rcases he with he | rfl
            · obtain ⟨ks', g1, g2, g3⟩ := hes e' he
              exact ⟨ks', by simp [g1], g2, g3⟩
            · exact ⟨ks, by simp, rfl, rfl⟩
          · intro x hx
            rcases List.mem_append.1 hx with hx | hx
            · obtain ⟨e', he, hk'⟩ := hS x hx
              exact ⟨e', by simp only [Array.toList_push, List.mem_append]; exact .inl he, hk'⟩
            · simp at hx
              exact ⟨_, by simp only [Array.toList_push, List.mem_append, List.mem_singleton]; exact .inr rfl, by rw [hx]⟩
        · have hm := List.mem_of_getElem? h2
          have h2' : es[j]? = some e' := by simpa using h2
          have hstay : (Instr.keyThatStays (aggI ks) (aggI ks)).run cx.P w = .ok (aggI ks) w := by
            unfold Instr.keyThatStays
            rw [if_pos (sameBits_ints 9999 ks)]; rfl
          refine ⟨es.modify j fun e => { e with key := aggI ks, val := .bool true }, clock, ?_, _, _, rfl, ?_, ?_, hlenS⟩
          · simp only [execOp, ho, Instr.mapUpdate, hx1, hya, hz1, Sem.run_bind, run_underlying (und_map hB ht), Result.andThen_ok, MapKept.run_getObj_map hob, Sem.run_pure,
              hchk, run_findKey_eq w hwide, h1, Nat.zero_add, h2', Option.map_some, Option.getD_some, h3, hstay, MapKept.run_setObj_map _ hob]
            rfl
          · intro e1 he
            obtain ⟨i, hi⟩ := List.mem_iff_getElem?.1 he
            simp only [Array.getElem?_toList, Array.getElem?_modify] at hi
            by_cases hij : j = i
            · rw [if_pos hij] at hi
              obtain ⟨e2, h4, rfl⟩ := Option.map_eq_some_iff.1 hi
              exact ⟨ks, by simp, rfl, rfl⟩
            · rw [if_neg hij] at hi
              obtain ⟨ks', g1, g2, g3⟩ := hes e1 (List.mem_of_getElem? (i := i) (by simpa using hi))
              exact ⟨ks', by simp [g1], g2, g3⟩
          · intro x hx
            have hk := MapKept.modify_keys (es := es) j (fun e => { e with key := aggI ks, val := .bool true }) (fun e he => by rw [h2'] at he; cases he; exact h3.symm)
            have e1 : ∀ l : List MapEntry, (∃ e ∈ l, e.key = aggI x) ↔ aggI x ∈ l.map (·.key) := fun l => by simp [List.mem_map]
            rw [e1, hk, ← e1]
            rcases List.mem_append.1 hx with hx | hx
            · exact hS x hx
            · simp at hx
              exact ⟨e', hm, by rw [h3, hx]⟩
      obtain ⟨es', clock', hrun, hset⟩ := hrun
      have hs' := hs.setObj hl1 (.map es' clock') hset
      refine wpIn_of_skip (by simp [ho]) hrun (hKK ρ _ _ ?_ (fun _ _ => rfl))
      exact hs'.putO (sv := .c .junk) hdst trivial (by rw [SV.below_c]; intro j hj; cases hj)
    · exact h.elim
  · exact h.elim

end Sx
end Go

namespace Go.Proofs
open Go.Sx

abbrev encL (l : Lnk) : List Int := [l.f, l.t, l.m, l.i]

theorem A_keyU : Try.prog.underlying 27 = some (.struct (Try.prog.fieldsOf 27)) := by kernel_rfl
theorem A_keyF : intFs Try.prog (Try.prog.fieldsOf 27).toList 0 = true := by kernel_rfl
theorem A_keyN : (Try.prog.fieldsOf 27).toList.length = 4 := by kernel_rfl
theorem A_keyE : ((27 : Nat), 4) ∈ tB.E := by simp [tB]

theorem linksRound (S : List (List Int)) (l : Lnk) : RoundT Try.prog Try.f143.ntmps [(3, .c (.p 1 0 0 0))] #[8]
    (rfA Try.f143) (rfB Try.f143) [svL l]
    [(1, true, .cells [.m 2]), (2, true, setK 4 S)] 3
    [(1, true, .cells [.m 2]), (2, true, setK 4 (S ++ [encL l]))] := by
  refine round_of tB_ok rfl ?_
  intro Φ Φ' ρ w
  conv => whnf
  refine ⟨rfl, ?_⟩
  conv => whnf
  refine mapUpS_step tB_ok 27 4 A_keyU A_keyF A_keyN A_keyE rfl ?_
  conv => whnf
  refine ⟨S, rfl, ?_⟩
  conv => whnf
  refine ⟨rfl, ?_⟩
  conv => whnf
  repeat' (first | exact trivial | exact rfl | refine And.intro ?_ ?_ | ((conv => whnf); first | exact trivial | exact rfl | refine And.intro ?_ ?_ | omega))

theorem links_t (bs : List (Int × Int)) (ls : List Lnk) (hb : bs.length ≤ 1000) (hB : BoxB bs) (hl : ls.length ≤ 100000) : Triple Try.prog 143 [sysA bs.length ls.length] (sysH bs ls) 2 (.c (.m 2)) [(2, true, setK 4 ((allF bs ls).map encL))] := by
  refine triple_of tB_ok Try.func143 rfl Try.call143 rfl ?_
  intro ρ w hH
  conv => whnf
  refine mkmapS_step 4 rfl ?_
  conv => whnf
  refine call_step (all_t bs ls) rfl rfl ?_
  conv => whnf
  refine ⟨(by repeat' (first | exact trivial | exact rfl | refine And.intro ?_ ?_ | ((conv => whnf); first | exact trivial | exact rfl | refine And.intro ?_ ?_ | omega))), (by repeat' (first | exact trivial | exact rfl | refine And.intro ?_ ?_ | ((conv => whnf); first | exact trivial | exact rfl | refine And.intro ?_ ?_ | omega))), ?_⟩
  conv => whnf
  refine range_step (asg := rfA Try.f143) (body := rfB Try.f143) tB_ok rfl Try.func138 rfl Try.call138 rfl ?_
  conv => whnf
  intro fo d l T0 ρ1 hT hE hl1
  have hA : ∀ i sv, (i, sv) ∈ [(3, SV.c (.p 4 0 0 0))] → sv.rel ρ1 (T0.getD i undef) := by
    intro i sv hm
    rcases List.mem_cons.1 hm with he | hm
    · cases he; exact hE 3
    · cases hm
  clear hE
  conv => whnf
  refine loop_step tB_ok (G := Nat × List (List Int)) 0 [] (fun g => [(10, iv .i64 g.1)]) (fun g => [(4, true, .cells [.m 3]), (3, true, setK 4 g.2), (7, true, recO fo T0 #[8] (rfA Try.f143) (rfB Try.f143) d)])
    (fun g => g.1 ≤ bs.length ∧ g.2 = (boxLinks 0 (bs.take g.1)).map encL) (fun g => bs.length - g.1) ?_
  conv => whnf
  refine ⟨⟨(0, []), ⟨Nat.zero_le _, rfl⟩, ?_⟩, ?_⟩
  · conv => whnf
    repeat' (first | exact trivial | exact rfl | refine And.intro ?_ ?_ | ((conv => whnf); first | exact trivial | exact rfl | refine And.intro ?_ ?_ | omega))
  rintro ⟨i, S⟩ ⟨hi, hS⟩ ρ2 t2 hρ2
  have hi : i ≤ bs.length := hi
  have hS : S = (boxLinks 0 (bs.take i)).map encL := hS
  have hρ2 : ∀ k, k < 8 → ρ2 k = ρ1 k := hρ2
  dsimp only
  conv => whnf
  refine ⟨fun hc => ?_, fun hc => ?_⟩
  · conv => whnf
    have h : i < bs.length := by simpa using hc
    have hst := congrArg (List.map encL) (boxLinks_take h)
    rw [List.map_append, List.map_append, ← hS] at hst
    refine ⟨i, rfl, h, h, ?_⟩
    conv => whnf
    refine yield_step (fn := fo) (d := d) [(3, .c (.p 4 0 0 0))] 7 (linksRound S ⟨-1, i, bs[i].2, 0⟩) hT (relSt_agree hA rfl hρ2) ((congrArg Rg.blk (hρ2 7 (by omega))).trans hl1) rfl rfl rfl rfl ?_
    conv => whnf
    refine ⟨(by repeat' (first | exact trivial | exact rfl | refine And.intro ?_ ?_ | ((conv => whnf); first | exact trivial | exact rfl | refine And.intro ?_ ?_ | omega))), (by repeat' (first | exact trivial | exact rfl | refine And.intro ?_ ?_ | ((conv => whnf); first | exact trivial | exact rfl | refine And.intro ?_ ?_ | omega))), ?_⟩
    conv => whnf
    refine ⟨-bs[i].1, ?_, ?_⟩
    · have := (hB bs[i] (List.getElem_mem h)).1
      show IntKind.i64.wrap (0 - bs[i].1) = -bs[i].1
      rw [wrapId ⟨by omega, by omega⟩]; omega
    conv => whnf
    refine yield_step (fn := fo) (d := d) [(3, .c (.p 4 0 0 0))] 7 (linksRound (S ++ [encL ⟨-1, i, bs[i].2, 0⟩]) ⟨i, -1, -bs[i].1, 0⟩) hT (relSt_agree hA rfl hρ2) ((congrArg Rg.blk (hρ2 7 (by omega))).trans hl1) rfl rfl rfl rfl ?_
    conv => whnf
    refine ⟨(by repeat' (first | exact trivial | exact rfl | refine And.intro ?_ ?_ | ((conv => whnf); first | exact trivial | exact rfl | refine And.intro ?_ ?_ | omega))), (by repeat' (first | exact trivial | exact rfl | refine And.intro ?_ ?_ | ((conv => whnf); first | exact trivial | exact rfl | refine And.intro ?_ ?_ | omega))), ?_⟩
    conv => whnf
    refine ⟨_, wrapId ⟨by omega, by omega⟩, ?_⟩
    refine ⟨(i + 1, (S ++ [encL ⟨-1, i, bs[i].2, 0⟩]) ++ [encL ⟨i, -1, -bs[i].1, 0⟩]), ⟨h, hst.symm⟩, by show bs.length - (i + 1) < bs.length - i; omega, ?_⟩
    conv => whnf
    refine ⟨rfl, ?_⟩
    conv => whnf
    repeat' (first | exact trivial | exact rfl | refine And.intro ?_ ?_ | ((conv => whnf); first | exact trivial | exact rfl | refine And.intro ?_ ?_ | omega))
  have hie : i = bs.length := by simp at hc; omega
  rw [hie, List.take_length] at hS
  conv => whnf
  refine loop_step tB_ok (G := Nat × List (List Int)) 0 [] (fun g => [(36, iv .i64 g.1)]) (fun g => [(4, true, .cells [.m 3]), (3, true, setK 4 g.2), (7, true, recO fo T0 #[8] (rfA Try.f143) (rfB Try.f143) d)])
    (fun g => g.1 ≤ ls.length ∧ g.2 = S ++ (ls.take g.1).map encL) (fun g => ls.length - g.1) ?_
  conv => whnf
  refine ⟨⟨(0, S), ⟨Nat.zero_le _, by simp⟩, ?_⟩, ?_⟩
  · conv => whnf
    repeat' (first | exact trivial | exact rfl | refine And.intro ?_ ?_ | ((conv => whnf); first | exact trivial | exact rfl | refine And.intro ?_ ?_ | omega))
  rintro ⟨j, S2⟩ ⟨hj, hS2⟩ ρ3 t3 hρ3
  have hj : j ≤ ls.length := hj
  have hS2 : S2 = S ++ (ls.take j).map encL := hS2
  have hρ3 : ∀ k, k < 8 → ρ3 k = ρ1 k := hρ3
  dsimp only
  conv => whnf
  refine ⟨fun hc => ?_, fun hc => ?_⟩
  · conv => whnf
    have h : j < ls.length := by simpa using hc
    have hst : S2 ++ [encL ls[j]] = S ++ (ls.take (j + 1)).map encL := by rw [hS2, List.append_assoc, take_snoc h, List.map_append]; rfl
    refine ⟨j, rfl, h, h, ?_⟩
    conv => whnf
    refine yield_step (fn := fo) (d := d) [(3, .c (.p 4 0 0 0))] 7 (linksRound S2 ls[j]) hT (relSt_agree hA rfl hρ3) ((congrArg Rg.blk (hρ3 7 (by omega))).trans hl1) rfl rfl rfl rfl ?_
    conv => whnf
    refine ⟨(by repeat' (first | exact trivial | exact rfl | refine And.intro ?_ ?_ | ((conv => whnf); first | exact trivial | exact rfl | refine And.intro ?_ ?_ | omega))), (by repeat' (first | exact trivial | exact rfl | refine And.intro ?_ ?_ | ((conv => whnf); first | exact trivial | exact rfl | refine And.intro ?_ ?_ | omega))), ?_⟩
    conv => whnf
    refine ⟨_, wrapId ⟨by omega, by omega⟩, ?_⟩
    refine ⟨(j + 1, S2 ++ [encL ls[j]]), ⟨h, hst⟩, by show ls.length - (j + 1) < ls.length - j; omega, ?_⟩
    conv => whnf
    refine ⟨rfl, ?_⟩
    conv => whnf
    repeat' (first | exact trivial | exact rfl | refine And.intro ?_ ?_ | ((conv => whnf); first | exact trivial | exact rfl | refine And.intro ?_ ?_ | omega))
  have hje : j = ls.length := by simp at hc; omega
  rw [hje, List.take_length, hS, ← List.map_append] at hS2
  have hS2 : S2 = (allF bs ls).map encL := hS2
  subst hS2
  conv => whnf
  refine ⟨rfl, ?_⟩
  conv => whnf
  refine ⟨fun _ h => h, ?_⟩
  conv => whnf
  repeat' (first | exact trivial | exact rfl | refine And.intro ?_ ?_ | ((conv => whnf); first | exact trivial | exact rfl | refine And.intro ?_ ?_ | omega))

theorem encL_mem (arcs : List Lnk) (c : Lnk) : encL c ∈ arcs.map encL ↔ c ∈ arcs := by
  rw [List.mem_map]
  constructor
  · rintro ⟨l, hl, he⟩
    have : l = c := by
      cases l; cases c
      simp only [encL, List.cons.injEq, and_true] at he
      simp [he]
    rw [← this]; exact hl
  · exact fun h => ⟨c, h, rfl⟩

def followF (arcs ch : List Lnk) (a b : Int) : Int × Int := if 2000 < ch.length then (0, 2) else if (chainR arcs ch a b).2 then ((chainR arcs ch a b).1, 0) else (0, 8)

theorem follow_t (bs : List (Int × Int)) (ls ch : List Lnk) (a b : Int) (hs : SysOK bs ls) (hcl : ch.length ≤ 1000000) :
    Triple Try.prog 113 [sysA bs.length ls.length, iv .i64 a, iv .i64 b, .c (.s 2 0 ch.length 4)] ((2, false, .arr (aLink ch)) :: sysH bs ls) 3 (.tup [.inl (.v (.int .i64 (followF (allF bs ls) ch a b).1)), .inl (.v (.int .i64 (followF (allF bs ls) ch a b).2))]) [] := by
  have hnb := hs.nb
  have hnl := hs.nl
  have hok := allF_ok hs
  have hF : followF (allF bs ls) ch a b = if 2000 < ch.length then (0, 2) else if (chainR (allF bs ls) ch a b).2 then ((chainR (allF bs ls) ch a b).1, 0) else (0, 8) := rfl
  have hR : chainR (allF bs ls) ch a b = match chainF (allF bs ls) ch a 0 with
    | some (s, e) => (s, e == b)
    | none => (0, false) := rfl
  generalize followF (allF bs ls) ch a b = R at *
  generalize chainR (allF bs ls) ch a b = X at *
  refine triple_of tB_ok Try.func113 rfl Try.call113 rfl ?_
  intro ρ w hH
  conv => whnf
  refine ⟨fun hc => ?_, fun hc => ?_⟩
  · have h3 : 2000 < ch.length := by have := of_decide_eq_true (show decide ((2000 : Int) < ch.length) = true from hc); omega
    rw [if_pos h3] at hF
    rw [hF]
    conv => whnf
    repeat' (first | exact trivial | exact rfl | refine And.intro ?_ ?_ | ((conv => whnf); first | exact trivial | exact rfl | refine And.intro ?_ ?_ | omega))
  have h3 : ¬ 2000 < ch.length := by have := of_decide_eq_false (show decide ((2000 : Int) < ch.length) = false from hc); omega
  rw [if_neg h3] at hF
  conv => whnf
  refine call_step (links_t bs ls (by omega) hs.boxB (by omega)) rfl rfl ?_
  conv => whnf
  refine ⟨(by repeat' (first | exact trivial | exact rfl | refine And.intro ?_ ?_ | ((conv => whnf); first | exact trivial | exact rfl | refine And.intro ?_ ?_ | omega))), (by repeat' (first | exact trivial | exact rfl | refine And.intro ?_ ?_ | ((conv => whnf); first | exact trivial | exact rfl | refine And.intro ?_ ?_ | omega))), ?_⟩
  conv => whnf
  generalize allF bs ls = arcs at *
  refine loop_step tB_ok (G := Nat × Int × Int) 0 [] (fun g => [(23, iv .i64 g.1), (11, iv .i64 g.2.1), (12, iv .i64 g.2.2)]) (fun _ => []) (fun g => g.1 ≤ ch.length ∧ (-(33554432 * (g.1 : Int)) ≤ g.2.1 ∧ g.2.1 ≤ 33554432 * (g.1 : Int)) ∧ chainF arcs ch a 0 = chainF arcs (ch.drop g.1) g.2.2 g.2.1) (fun g => ch.length - g.1) ?_
  conv => whnf
  refine ⟨⟨(0, 0, a), ⟨Nat.zero_le _, ⟨by simp, by simp⟩, rfl⟩, ?_⟩, ?_⟩
  · conv => whnf
    repeat' (first | exact trivial | exact rfl | refine And.intro ?_ ?_ | ((conv => whnf); first | exact trivial | exact rfl | refine And.intro ?_ ?_ | omega))
  rintro ⟨i, s, at'⟩ ⟨hi, hsb, hC⟩ ρ1 t1 hρ1
  have hi : i ≤ ch.length := hi
  have hsb : -(33554432 * (i : Int)) ≤ s ∧ s ≤ 33554432 * (i : Int) := hsb
  have hC : chainF arcs ch a 0 = chainF arcs (ch.drop i) at' s := hC
  dsimp only
  conv => whnf
  refine ⟨fun hc => ?_, fun hc => ?_⟩
  · have hlt : i < ch.length := by have := of_decide_eq_true (show decide ((i : Int) < ch.length) = true from hc); omega
    rw [List.drop_eq_getElem_cons hlt] at hC
    conv => whnf
    refine ⟨i, rfl, hlt, hlt, ?_⟩
    conv => whnf
    refine ⟨fun hc => ?_, fun hc => ?_⟩
    · have hf : ch[i].f ≠ at' := by simpa using (show (ch[i].f != at') = true from hc)
      have hC2 : chainF arcs ch a 0 = none := by rw [hC, chainF, if_neg (fun h => hf h.2)]
      have e : R = (0, 8) := by rw [hF, hR, hC2]; rfl
      rw [e]
      conv => whnf
      repeat' (first | exact trivial | exact rfl | refine And.intro ?_ ?_ | ((conv => whnf); first | exact trivial | exact rfl | refine And.intro ?_ ?_ | omega))
    have hf : ch[i].f = at' := by simpa using (show (ch[i].f != at') = false from hc)
    conv => whnf
    refine lookupS_step tB_ok 4 27 4 zeroB_ok A_keyU A_keyF A_keyN A_keyE rfl ?_
    conv => whnf
    refine ⟨_, rfl, ?_⟩
    conv => whnf
    refine ⟨fun hc => ?_, fun hc => ?_⟩
    · have hk : ch[i] ∉ arcs := by
        have : decide (encL ch[i] ∈ arcs.map encL) = false := by simpa using (show (!decide (encL ch[i] ∈ arcs.map encL)) = true from hc)
        exact fun h => of_decide_eq_false this ((encL_mem arcs ch[i]).2 h)
      have hC2 : chainF arcs ch a 0 = none := by rw [hC, chainF, if_neg (fun h => hk h.1)]
      have e : R = (0, 8) := by rw [hF, hR, hC2]; rfl
      rw [e]
      conv => whnf
      repeat' (first | exact trivial | exact rfl | refine And.intro ?_ ?_ | ((conv => whnf); first | exact trivial | exact rfl | refine And.intro ?_ ?_ | omega))
    have hk : ch[i] ∈ arcs := by
      have : decide (encL ch[i] ∈ arcs.map encL) = true := by simpa using (show (!decide (encL ch[i] ∈ arcs.map encL)) = false from hc)
      exact (encL_mem arcs ch[i]).1 (of_decide_eq_true this)
    have hm := (hok _ hk).2.2
    rw [chainF, if_pos ⟨hk, hf⟩] at hC
    conv => whnf
    refine ⟨s + ch[i].m, wrapId (z := s + ch[i].m) ⟨by omega, by omega⟩, ?_⟩
    conv => whnf
    refine ⟨(i : Int) + 1, wrapId (z := (i : Int) + 1) ⟨by omega, by omega⟩, ?_⟩
    refine ⟨(i + 1, s + ch[i].m, ch[i].t), ⟨hlt, ⟨by show -(33554432 * ((i + 1 : Nat) : Int)) ≤ s + ch[i].m; omega, by show s + ch[i].m ≤ 33554432 * ((i + 1 : Nat) : Int); omega⟩, hC⟩, by show ch.length - (i + 1) < ch.length - i; omega, ?_⟩
    conv => whnf
    refine ⟨rfl, ?_⟩
    conv => whnf
    repeat' (first | exact trivial | exact rfl | refine And.intro ?_ ?_ | ((conv => whnf); first | exact trivial | exact rfl | refine And.intro ?_ ?_ | omega))
  have hie : i = ch.length := by have := of_decide_eq_false (show decide ((i : Int) < ch.length) = false from hc); omega
  rw [hie, List.drop_length] at hC
  have e : X = (s, at' == b) := by rw [hR, hC]; rfl
  rw [e] at hF
  conv => whnf
  refine ⟨fun hc => ?_, fun hc => ?_⟩
  · have h1 : (at' == b) = false := by simpa using (show (at' != b) = true from hc)
    rw [h1, if_neg (by simp)] at hF
    rw [hF]
    conv => whnf
    repeat' (first | exact trivial | exact rfl | refine And.intro ?_ ?_ | ((conv => whnf); first | exact trivial | exact rfl | refine And.intro ?_ ?_ | omega))
  · have h1 : (at' == b) = true := by simpa using (show (at' != b) = false from hc)
    rw [h1, if_pos rfl] at hF
    rw [hF]
    conv => whnf
    repeat' (first | exact trivial | exact rfl | refine And.intro ?_ ?_ | ((conv => whnf); first | exact trivial | exact rfl | refine And.intro ?_ ?_ | omega))

theorem place_within' (n : Nat) (p : Int) : withinF p (-1) ((n : Int) - 1) = placeF n p := (place_within n p).symm

theorem checkChain_t (bs : List (Int × Int)) (ls ch : List Lnk) (a b : Int) (hb : bs.length ≤ 1000000) (hl : ls.length ≤ 1000000) (hcl : ch.length ≤ 1000000) :
    Triple Try.prog 54 [sysA bs.length ls.length, iv .i64 a, iv .i64 b, .c (.s 2 0 ch.length 4)] ((2, false, .arr (aLink ch)) :: sysH bs ls) 3 (.tup [.inl (.v (.int .i64 (checkChainF bs ls a b ch).1)), .inl (.v (.int .i64 (checkChainF bs ls a b ch).2))]) [] := by
  have hF : checkChainF bs ls a b ch = if checkF bs ls ≠ 0 then (0, checkF bs ls) else if placeF bs.length a = false ∨ placeF bs.length b = false then (0, 1) else followF (allF bs ls) ch a b := rfl
  generalize checkChainF bs ls a b ch = R at *
  refine triple_of tB_ok Try.func54 rfl Try.call54 rfl ?_
  intro ρ w hH
  conv => whnf
  refine call_step (check_t bs ls hb hl) rfl rfl ?_
  conv => whnf
  refine ⟨(by repeat' (first | exact trivial | exact rfl | refine And.intro ?_ ?_ | ((conv => whnf); first | exact trivial | exact rfl | refine And.intro ?_ ?_ | omega))), (by repeat' (first | exact trivial | exact rfl | refine And.intro ?_ ?_ | ((conv => whnf); first | exact trivial | exact rfl | refine And.intro ?_ ?_ | omega))), ?_⟩
  conv => whnf
  by_cases hck : checkF bs ls = 0
  · rw [if_neg (by simpa using hck)] at hF
    have hs := checkF_ok.1 hck
    have hfo := follow_t bs ls ch a b hs hcl
    rw [hck]
    refine ⟨fun hc => absurd hc (by simp), fun hc => ?_⟩
    conv => whnf
    refine ⟨(bs.length : Int) - 1, wrapId (z := (bs.length : Int) - 1) ⟨by omega, by omega⟩, ?_⟩
    conv => whnf
    refine call_step (within_t a (-1) ((bs.length : Int) - 1)) rfl rfl ?_
    conv => whnf
    refine ⟨(by repeat' (first | exact trivial | exact rfl | refine And.intro ?_ ?_ | ((conv => whnf); first | exact trivial | exact rfl | refine And.intro ?_ ?_ | omega))), (by repeat' (first | exact trivial | exact rfl | refine And.intro ?_ ?_ | ((conv => whnf); first | exact trivial | exact rfl | refine And.intro ?_ ?_ | omega))), ?_⟩
    conv => whnf
    rw [place_within']
    refine ⟨fun hc => ?_, fun hc => ?_⟩
    · have h1 : placeF bs.length a = false := by simpa using (show (!placeF bs.length a) = true from hc)
      rw [if_pos (.inl h1)] at hF
      rw [hF]
      conv => whnf
      repeat' (first | exact trivial | exact rfl | refine And.intro ?_ ?_ | ((conv => whnf); first | exact trivial | exact rfl | refine And.intro ?_ ?_ | omega))
    have h1 : placeF bs.length a = true := by simpa using (show (!placeF bs.length a) = false from hc)
    conv => whnf
    refine ⟨(bs.length : Int) - 1, wrapId (z := (bs.length : Int) - 1) ⟨by omega, by omega⟩, ?_⟩
    conv => whnf
    refine call_step (within_t b (-1) ((bs.length : Int) - 1)) rfl rfl ?_
    conv => whnf
    refine ⟨(by repeat' (first | exact trivial | exact rfl | refine And.intro ?_ ?_ | ((conv => whnf); first | exact trivial | exact rfl | refine And.intro ?_ ?_ | omega))), (by repeat' (first | exact trivial | exact rfl | refine And.intro ?_ ?_ | ((conv => whnf); first | exact trivial | exact rfl | refine And.intro ?_ ?_ | omega))), ?_⟩
    conv => whnf
    rw [place_within']
    refine ⟨fun hc => ?_, fun hc => ?_⟩
    · have h2 : placeF bs.length b = false := by simpa using (show (!placeF bs.length b) = true from hc)
      rw [if_pos (.inr h2)] at hF
      rw [hF]
      conv => whnf
      repeat' (first | exact trivial | exact rfl | refine And.intro ?_ ?_ | ((conv => whnf); first | exact trivial | exact rfl | refine And.intro ?_ ?_ | omega))
    have h2 : placeF bs.length b = true := by simpa using (show (!placeF bs.length b) = false from hc)
    rw [if_neg (by rw [h1, h2]; simp)] at hF
    rw [← hF] at hfo
    conv => whnf
    refine call_step hfo rfl rfl ?_
    conv => whnf
    refine ⟨(by repeat' (first | exact trivial | exact rfl | refine And.intro ?_ ?_ | ((conv => whnf); first | exact trivial | exact rfl | refine And.intro ?_ ?_ | omega))), (by repeat' (first | exact trivial | exact rfl | refine And.intro ?_ ?_ | ((conv => whnf); first | exact trivial | exact rfl | refine And.intro ?_ ?_ | omega))), ?_⟩
    conv => whnf
    repeat' (first | exact trivial | exact rfl | refine And.intro ?_ ?_ | ((conv => whnf); first | exact trivial | exact rfl | refine And.intro ?_ ?_ | omega))
  · rw [if_pos (by simpa using hck)] at hF
    rw [hF]
    generalize checkF bs ls = c at *
    refine ⟨fun hcc => ?_, fun hcc => ?_⟩
    · conv => whnf
      repeat' (first | exact trivial | exact rfl | refine And.intro ?_ ?_ | ((conv => whnf); first | exact trivial | exact rfl | refine And.intro ?_ ?_ | omega))
    · exact absurd (by simpa using hcc) hck

theorem checkCycle_t (bs : List (Int × Int)) (ls cyc : List Lnk) (hb : bs.length ≤ 1000000) (hl : ls.length ≤ 1000000) (hcl : cyc.length ≤ 1000000) :
    Triple Try.prog 55 [sysA bs.length ls.length, .c (.s 2 0 cyc.length 4)] ((2, false, .arr (aLink cyc)) :: sysH bs ls) 3 (iv .i64 (checkCycF bs ls cyc)) [] := by
  have hF : checkCycF bs ls cyc = if checkF bs ls ≠ 0 then checkF bs ls else if 2000 < cyc.length then 2 else if cyc.length = 0 then 8 else
    if (chainR (allF bs ls) cyc (headI cyc) (headI cyc)).2 = false ∨ 0 ≤ (chainR (allF bs ls) cyc (headI cyc) (headI cyc)).1 then 8 else 0 := rfl
  generalize checkCycF bs ls cyc = R at *
  refine triple_of tB_ok Try.func55 rfl Try.call55 rfl ?_
  intro ρ w hH
  conv => whnf
  refine call_step (check_t bs ls hb hl) rfl rfl ?_
  conv => whnf
  refine ⟨(by repeat' (first | exact trivial | exact rfl | refine And.intro ?_ ?_ | ((conv => whnf); first | exact trivial | exact rfl | refine And.intro ?_ ?_ | omega))), (by repeat' (first | exact trivial | exact rfl | refine And.intro ?_ ?_ | ((conv => whnf); first | exact trivial | exact rfl | refine And.intro ?_ ?_ | omega))), ?_⟩
  conv => whnf
  by_cases hck : checkF bs ls = 0
  · rw [if_neg (by simpa using hck)] at hF
    have hs := checkF_ok.1 hck
    rw [hck]
    refine ⟨fun hc => absurd hc (by simp), fun hc => ?_⟩
    conv => whnf
    refine ⟨fun hc => ?_, fun hc => ?_⟩
    · have h4 : cyc.length = 0 := by have := (by simpa using (show ((cyc.length : Int) == 0) = true from hc) : (cyc.length : Int) = 0 ∨ cyc = []); rcases this with h | h <;> simp_all
      rw [if_neg (by omega), if_pos h4] at hF
      rw [hF]
      conv => whnf
      repeat' (first | exact trivial | exact rfl | refine And.intro ?_ ?_ | ((conv => whnf); first | exact trivial | exact rfl | refine And.intro ?_ ?_ | omega))
    have h4 : 0 < cyc.length := by
      rcases Nat.eq_zero_or_pos cyc.length with h | h
      · rw [h] at hc; exact absurd hc (by simp)
      · exact h
    rw [if_neg (show ¬ cyc.length = 0 by omega)] at hF
    have h0 : cyc[0].f = headI cyc := by
      unfold headI
      rw [List.getD_eq_getElem?_getD, List.getElem?_eq_getElem h4]; rfl
    have hfo := follow_t bs ls cyc (headI cyc) (headI cyc) hs hcl
    have hG : followF (allF bs ls) cyc (headI cyc) (headI cyc) = if 2000 < cyc.length then (0, 2) else if (chainR (allF bs ls) cyc (headI cyc) (headI cyc)).2 then ((chainR (allF bs ls) cyc (headI cyc) (headI cyc)).1, 0) else (0, 8) := rfl
    rw [← h0] at hfo hF hG
    conv => whnf
    refine ⟨0, rfl, by omega, h4, ?_⟩
    conv => whnf
    refine ⟨0, rfl, by omega, h4, ?_⟩
    conv => whnf
    refine call_step hfo rfl rfl ?_
    conv => whnf
    refine ⟨(by repeat' (first | exact trivial | exact rfl | refine And.intro ?_ ?_ | ((conv => whnf); first | exact trivial | exact rfl | refine And.intro ?_ ?_ | omega))), (by repeat' (first | exact trivial | exact rfl | refine And.intro ?_ ?_ | ((conv => whnf); first | exact trivial | exact rfl | refine And.intro ?_ ?_ | omega))), ?_⟩
    conv => whnf
    generalize followF (allF bs ls) cyc cyc[0].f cyc[0].f = Y at *
    generalize chainR (allF bs ls) cyc cyc[0].f cyc[0].f = X at *
    obtain ⟨X1, X2⟩ := X
    by_cases h3 : 2000 < cyc.length
    · rw [if_pos h3] at hF hG
      subst hF hG
      refine ⟨fun hc => absurd hc (by simp), fun hc => ?_⟩
      conv => whnf
      repeat' (first | exact trivial | exact rfl | refine And.intro ?_ ?_ | ((conv => whnf); first | exact trivial | exact rfl | refine And.intro ?_ ?_ | omega))
    rw [if_neg h3] at hF hG
    cases X2 with
    | false =>
      rw [if_neg (by simp)] at hG
      rw [if_pos (.inl rfl)] at hF
      subst hF hG
      refine ⟨fun hc => absurd hc (by simp), fun hc => ?_⟩
      conv => whnf
      repeat' (first | exact trivial | exact rfl | refine And.intro ?_ ?_ | ((conv => whnf); first | exact trivial | exact rfl | refine And.intro ?_ ?_ | omega))
    | true =>
      rw [if_pos rfl] at hG
      subst hG
      refine ⟨fun hc => ?_, fun hc => absurd hc (by simp)⟩
      conv => whnf
      refine ⟨fun hc => ?_, fun hc => ?_⟩
      · have h6 : 0 ≤ X1 := of_decide_eq_true (show decide (0 ≤ X1) = true from hc)
        rw [if_pos (.inr h6)] at hF
        rw [hF]
        conv => whnf
        repeat' (first | exact trivial | exact rfl | refine And.intro ?_ ?_ | ((conv => whnf); first | exact trivial | exact rfl | refine And.intro ?_ ?_ | omega))
      · have h6 : ¬ 0 ≤ X1 := of_decide_eq_false (show decide (0 ≤ X1) = false from hc)
        rw [if_neg (by rintro (h | h); cases h; exact h6 h)] at hF
        rw [hF]
        conv => whnf
        repeat' (first | exact trivial | exact rfl | refine And.intro ?_ ?_ | ((conv => whnf); first | exact trivial | exact rfl | refine And.intro ?_ ?_ | omega))
  · rw [if_pos (by simpa using hck)] at hF
    rw [hF]
    generalize checkF bs ls = c at *
    refine ⟨fun hcc => ?_, fun hcc => ?_⟩
    · conv => whnf
      repeat' (first | exact trivial | exact rfl | refine And.intro ?_ ?_ | ((conv => whnf); first | exact trivial | exact rfl | refine And.intro ?_ ?_ | omega))
    · exact absurd (by simpa using hcc) hck

theorem systemChains_t (bs : List (Int × Int)) (ls : List Lnk) (a b : Int) (ch : List Lnk) : Triple Try.prog 10 [sysA bs.length ls.length, iv .i64 a, iv .i64 b, .c (.s 2 0 ch.length 4)] (sysH bs ls ++ [(2, false, .arr (aLink ch))]) 3 (bv true) [] := by
  refine triple_of tB_ok Try.func10 rfl Try.call10 rfl ?_
  intro ρ w hH
  conv => whnf
  refine call_step head_t rfl rfl ?_
  conv => whnf
  refine ⟨(by repeat' (first | exact trivial | exact rfl | refine And.intro ?_ ?_ | ((conv => whnf); first | exact trivial | exact rfl | refine And.intro ?_ ?_ | omega))), (by repeat' (first | exact trivial | exact rfl | refine And.intro ?_ ?_ | ((conv => whnf); first | exact trivial | exact rfl | refine And.intro ?_ ?_ | omega))), ?_⟩
  conv => whnf
  refine call_step (few_t bs ls) rfl rfl ?_
  conv => whnf
  refine ⟨(by repeat' (first | exact trivial | exact rfl | refine And.intro ?_ ?_ | ((conv => whnf); first | exact trivial | exact rfl | refine And.intro ?_ ?_ | omega))), (by repeat' (first | exact trivial | exact rfl | refine And.intro ?_ ?_ | ((conv => whnf); first | exact trivial | exact rfl | refine And.intro ?_ ?_ | omega))), ?_⟩
  conv => whnf
  refine ⟨fun hc => ?_, fun hc => ?_⟩
  · conv => whnf
    repeat' (first | exact trivial | exact rfl | refine And.intro ?_ ?_ | ((conv => whnf); first | exact trivial | exact rfl | refine And.intro ?_ ?_ | omega))
  have hf : fewF bs ls = true := by simpa using (show (!fewF bs ls) = false from hc)
  simp only [fewF, Bool.and_eq_true, decide_eq_true_eq] at hf
  conv => whnf
  refine ⟨fun hc => ?_, fun hc => ?_⟩
  · conv => whnf
    repeat' (first | exact trivial | exact rfl | refine And.intro ?_ ?_ | ((conv => whnf); first | exact trivial | exact rfl | refine And.intro ?_ ?_ | omega))
  have hl : ¬ 2100 < ch.length := by have := of_decide_eq_false (show decide ((2100 : Int) < ch.length) = false from hc); omega
  conv => whnf
  refine call_step (checkChain_t bs ls ch a b (by omega) (by omega) (by omega)) rfl rfl ?_
  conv => whnf
  refine ⟨(by repeat' (first | exact trivial | exact rfl | refine And.intro ?_ ?_ | ((conv => whnf); first | exact trivial | exact rfl | refine And.intro ?_ ?_ | omega))), (by repeat' (first | exact trivial | exact rfl | refine And.intro ?_ ?_ | ((conv => whnf); first | exact trivial | exact rfl | refine And.intro ?_ ?_ | omega))), ?_⟩
  conv => whnf
  refine call_step (refCheckChain_t bs ls ch a b (by omega) (by omega) (by omega)) rfl rfl ?_
  conv => whnf
  refine ⟨(by repeat' (first | exact trivial | exact rfl | refine And.intro ?_ ?_ | ((conv => whnf); first | exact trivial | exact rfl | refine And.intro ?_ ?_ | omega))), (by repeat' (first | exact trivial | exact rfl | refine And.intro ?_ ?_ | ((conv => whnf); first | exact trivial | exact rfl | refine And.intro ?_ ?_ | omega))), ?_⟩
  conv => whnf
  refine ⟨fun hc => ?_, fun hc => absurd hc (by simp)⟩
  conv => whnf
  refine ⟨fun hc => ?_, fun hc => absurd hc (by simp)⟩
  conv => whnf
  refine ⟨fun hc => ?_, fun hc => absurd hc (by simp)⟩
  conv => whnf
  refine call_step (checkCycle_t bs ls ch (by omega) (by omega) (by omega)) rfl rfl ?_
  conv => whnf
  refine ⟨(by repeat' (first | exact trivial | exact rfl | refine And.intro ?_ ?_ | ((conv => whnf); first | exact trivial | exact rfl | refine And.intro ?_ ?_ | omega))), (by repeat' (first | exact trivial | exact rfl | refine And.intro ?_ ?_ | ((conv => whnf); first | exact trivial | exact rfl | refine And.intro ?_ ?_ | omega))), ?_⟩
  conv => whnf
  refine call_step (refCheckCycle_t bs ls ch (by omega) (by omega) (by omega)) rfl rfl ?_
  conv => whnf
  refine ⟨(by repeat' (first | exact trivial | exact rfl | refine And.intro ?_ ?_ | ((conv => whnf); first | exact trivial | exact rfl | refine And.intro ?_ ?_ | omega))), (by repeat' (first | exact trivial | exact rfl | refine And.intro ?_ ?_ | ((conv => whnf); first | exact trivial | exact rfl | refine And.intro ?_ ?_ | omega))), ?_⟩
  conv => whnf
  repeat' (first | exact trivial | exact rfl | refine And.intro ?_ ?_ | ((conv => whnf); first | exact trivial | exact rfl | refine And.intro ?_ ?_ | omega))
  show (checkCycF bs ls ch == checkCycF bs ls ch) = true
  simp

end Go.Proofs

