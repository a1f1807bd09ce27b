/-
  A part of the proof that a law of dryweightlaw03 answers true: lemmas of a symbolic walk, plain functions, or contracts of the functions walked (Xa, Pm12, Xb, Xc, Pm13, Pm14, Pm15, Xj). Conditions: none.
-/
import Derived.Test.YtjjfadfmdodmnaaPart16
import Derived.Test.YtjjfadfmdodmnaaPart14
set_option maxRecDepth 100000
set_option linter.unusedVariables false
set_option linter.unusedSimpArgs false
namespace Go.Proofs
open Go.Sx

theorem calm_tree {bs : List (Int × Int)} {ls : List Lnk} (hs : SysOK bs ls) (hcalm : Calm bs ls 0) (k : Int) {src : Nat} (hsrc : src ≤ bs.length) :
    (shortF bs.length noRev (graphF bs ls k) src).2 = -1 ∧ ∃ ts, Tree bs.length (graphF bs ls k) (edgs bs.length noR 0 (graphF bs ls k)) src (shortF bs.length noRev (graphF bs ls k) src).1 ts := by
  obtain ⟨q, hq⟩ := calm_pot hs hcalm
  have hr := rounds_pot (rev := noR) (k := bs.length + 2) (graphF_ok hs k) (potL_iff.1 (hq k)) hsrc (by omega)
  exact ⟨hr.1, tree_of (rev := noR) (graphF_ok hs k) (hub_graph bs ls k) hsrc hr.1⟩

theorem few_bd {n : Nat} {arcs : List Lnk} {src : Nat} (hn : n ≤ 14) (hl : arcs.length ≤ 200) (hok : ∀ l ∈ arcs, ArcOK n l) (rev : Nat → Bool) : ∀ v, -250000000000 ≤ (shortF n rev arcs src).1.sum.getD v 0 ∧ (shortF n rev arcs src).1.sum.getD v 0 ≤ 250000000000 := by
  intro v
  have h := shortF_tok n rev arcs src hok
  have hb : ((n + 3 : Nat) : Int) * (67108864 * arcs.length) ≤ 17 * (67108864 * 200) := Int.mul_le_mul (by omega) (by omega) (by omega) (by omega)
  by_cases hi : v < (shortF n rev arcs src).1.sum.length
  · have := h.bd _ (getD_mem hi)
    omega
  · rw [List.getD_eq_getElem?_getD, List.getElem?_eq_none (by omega)]
    simp

end Go.Proofs

/-
  Plain lemmas, part 12: a place that was changed in a late round leads back into a cycle with a negative sum. Conditions: none; definitions and plain lemmas.
-/
namespace Go
namespace Proofs

def wsum (f : Nat → Int) : Nat → Int
  | 0 => 0
  | m + 1 => wsum f m + f m

/-- A cycle that relaxing has met: the way back from a place, by the arcs over which each place was reached; behind n + 1 steps it goes round, M steps each time. -/
structure Cyc (n : Nat) (arcs : List Lnk) (T : Tr) (v : Nat) (P kk : Nat → Nat) (M : Nat) : Prop where
  start : P 0 = v
  le : ∀ m, P m ≤ n
  lst : ∀ m, T.last[P m]? = some ((kk m : Nat) : Int)
  bef : ∀ m, befF n arcs (kk m) = some (P (m + 1))
  lnk : ∀ m, ∃ l, arcs[kk m / 2]? = some l ∧ plc n l.t = P m ∧ plc n l.f = P (m + 1)
  pos : 1 ≤ M
  len : M ≤ n + 1
  per : P (n + 1 + M) = P (n + 1)
  low : ∀ m, 1 ≤ m → m < M → P (n + 1 + m) ≠ P (n + 1)
  nodup : ((List.range M).map fun m => P (n + 1 + m)).Nodup
  neg : wsum (fun m => (arcs.getD (kk (n + 1 + m) / 2) ⟨0, 0, 0, 0⟩).m) M < 0

theorem least (p : Nat → Prop) (h : ∃ m, 1 ≤ m ∧ p m) : ∃ m, 1 ≤ m ∧ p m ∧ ∀ k, 1 ≤ k → k < m → ¬ p k := by
  obtain ⟨m, hm⟩ := h
  induction m using Nat.strongRecOn with
  | ind m ih =>
    by_cases hk : ∃ k, k < m ∧ 1 ≤ k ∧ p k
    · obtain ⟨k, h1, h2⟩ := hk
      exact ih k h1 h2
    · exact ⟨m, hm.1, hm.2, fun k h1 h2 h3 => hk ⟨k, h2, h1, h3⟩⟩

theorem cyc_of {n : Nat} {arcs : List Lnk} {src : Nat} (hok : ∀ l ∈ arcs, ArcOK n l) (hs : src ≤ n) (h : (shortF n noR arcs src).2 ≠ -1) :
    ∃ v P kk M, (shortF n noR arcs src).2 = ((v : Nat) : Int) ∧ v ≤ n ∧ Cyc n arcs (shortF n noR arcs src).1 v P kk M := by
  have hE := edgs_ok (rev := noR) hok
  have hG := edgs_key (n := n) (rev := noR) (arcs := arcs)
  obtain ⟨ts, r, hB, hr⟩ := BF.rounds (n := n) (rev := noR) (arcs := arcs) rfl hE (n + 2) 0 _ _ (BF.start hs)
  have hr : ∃ v, v < n + 1 ∧ (shortF n noR arcs src).2 = ((v : Nat) : Int) ∧ (0 + (n + 2)) * (edgs n noR 0 arcs).length + 1 ≤ ts v := by
    rcases hr with hr | hr
    · exact absurd hr.1 h
    · exact hr
  obtain ⟨v, hv, hch, hts⟩ := hr
  have hB : BF (edgs n noR 0 arcs) (n + 1) src r 0 ts (shortF n noR arcs src).1 := hB
  generalize (shortF n noR arcs src).1 = T at *
  rw [Nat.zero_add] at hts
  have hc := hB.chain hE hG hv hts
  obtain ⟨P, hP⟩ : ∃ P, P = backN (keyE n arcs) T v := ⟨_, rfl⟩
  rw [← hP] at hc
  have hstep : ∀ m, P (m + 1) = backF (keyE n arcs) T (P m) := fun m => by rw [hP]; rfl
  obtain ⟨i, j, hij, hj, he⟩ := pigeon (n + 1) P (fun i hi => (hc i (by omega)).1)
  have hshift : ∀ t, P (i + t) = P (j + t) := by
    intro t
    induction t with
    | zero => exact he
    | succ t ih => rw [show i + (t + 1) = i + t + 1 from rfl, show j + (t + 1) = j + t + 1 from rfl, hstep, hstep, ih]
  have hall : ∀ m, P m < n + 1 ∧ T.last.getD (P m) (-1) ≠ -1 := by
    intro m
    induction m using Nat.strongRecOn with
    | ind m ih =>
      by_cases hm : m ≤ n + 2
      · exact ⟨(hc m hm).1, (hc m hm).2.2⟩
      · have e : P m = P (m - (j - i)) := by
          have := hshift (m - j)
          rw [show i + (m - j) = m - (j - i) from by omega, show j + (m - j) = m from by omega] at this
          exact this.symm
        rw [e]
        exact ih _ (by omega)
  have hback := fun m => hB.back hG (hall m).1 (hall m).2
  obtain ⟨kk, hkk⟩ : ∃ kk : Nat → Nat, ∀ m, kk m = (T.last.getD (P m) (-1)).toNat := ⟨fun m => (T.last.getD (P m) (-1)).toNat, fun m => rfl⟩
  have hkk2 : ∀ m, T.last.getD (P m) (-1) = ((kk m : Nat) : Int) := by
    intro m
    obtain ⟨g1, g2, _⟩ := hback m
    have := (hE _ g1).2.2
    rw [g2] at this
    rw [hkk]; omega
  have hkey : ∀ m, keyE n arcs (kk m) ∈ edgs n noR 0 arcs ∧ (keyE n arcs (kk m)).k = (kk m : Int) ∧ (keyE n arcs (kk m)).b = P m ∧ (keyE n arcs (kk m)).a = P (m + 1) := by
    intro m
    obtain ⟨g1, g2, g3, _⟩ := hback m
    rw [hkk2 m] at g1 g2 g3
    refine ⟨g1, g2, g3, ?_⟩
    rw [hstep]; unfold backF; rw [hkk2 m]
  have hlnk : ∀ m, ∃ l, arcs[kk m / 2]? = some l ∧ plc n l.t = P m ∧ plc n l.f = P (m + 1) ∧ (keyE n arcs (kk m)).w = l.m := by
    intro m
    obtain ⟨h1, h2, h3, h4⟩ := hkey m
    obtain ⟨_, _, l, hl, h5 | h5⟩ := key_befF h1 h2
    · exact ⟨l, hl, by rw [← h5.2.2.1]; exact h3, by rw [← h5.2.1]; exact h4, h5.2.2.2⟩
    · cases h5.2.1
  obtain ⟨M, hM1, hM2, hM3⟩ := least (fun M => P (n + 1 + M) = P (n + 1)) ⟨j - i, by omega, by
    have := hshift (n + 1 - i)
    rw [show i + (n + 1 - i) = n + 1 from by omega, show j + (n + 1 - i) = n + 1 + (j - i) from by omega] at this
    exact this.symm⟩
  have hsh2 : ∀ x y t, P (n + 1 + x) = P (n + 1 + y) → P (n + 1 + x + t) = P (n + 1 + y + t) := by
    intro x y t hxy
    induction t with
    | zero => exact hxy
    | succ t ih => rw [show n + 1 + x + (t + 1) = n + 1 + x + t + 1 from rfl, show n + 1 + y + (t + 1) = n + 1 + y + t + 1 from rfl, hstep, hstep, ih]
  have hnd : ((List.range M).map fun m => P (n + 1 + m)).Nodup := by
    unfold List.Nodup
    rw [List.pairwise_map, List.pairwise_iff_getElem]
    intro x y hx hy hxy hexy
    simp only [List.getElem_range] at hexy
    have hyM : y < M := by simpa using hy
    have := hsh2 x y (M - y) hexy
    rw [show n + 1 + y + (M - y) = n + 1 + M from by omega, hM2, show n + 1 + x + (M - y) = n + 1 + (x + (M - y)) from by omega] at this
    exact hM3 (x + (M - y)) (by omega) (by omega) this
  refine ⟨v, P, kk, M, hch, by omega, ⟨by rw [hP]; rfl, fun m => by have := (hall m).1; omega, fun m => ?_, fun m => ?_, fun m => ?_, hM1, ?_, hM2, hM3, hnd, ?_⟩⟩
  · have hl : P m < T.last.length := by rw [hB.ll]; exact (hall m).1
    rw [← hkk2 m, List.getD_eq_getElem?_getD, List.getElem?_eq_getElem hl]; rfl
  · obtain ⟨h1, h2, h3, h4⟩ := hkey m
    rw [(key_befF h1 h2).2.1, h4]
  · obtain ⟨l, h1, h2, h3, _⟩ := hlnk m
    exact ⟨l, h1, h2, h3⟩
  · have := nodup_len (N := n + 1) hnd (fun x hx => by
      obtain ⟨m, _, rfl⟩ := List.mem_map.1 hx
      exact (hall _).1)
    simpa using this
  · obtain ⟨Q, hQ⟩ : ∃ Q : Nat → Int, ∀ k, Q k = -wsum (fun m => (arcs.getD (kk (n + 1 + m) / 2) ⟨0, 0, 0, 0⟩).m) (k - (n + 1)) := ⟨fun k => -wsum (fun m => (arcs.getD (kk (n + 1 + m) / 2) ⟨0, 0, 0, 0⟩).m) (k - (n + 1)), fun k => rfl⟩
    have hf := hB.fall hG (v := v) (i := n + 1) (m := M) (Q := Q) (fun k _ _ => by rw [← hP]; exact hall k) (fun k h1 h2 => by
      rw [hQ, hQ, show k + 1 - (n + 1) = (k - (n + 1)) + 1 from by omega]
      show _ ≤ -(wsum (fun m => (arcs.getD (kk (n + 1 + m) / 2) ⟨0, 0, 0, 0⟩).m) (k - (n + 1)) + (arcs.getD (kk (n + 1 + (k - (n + 1))) / 2) ⟨0, 0, 0, 0⟩).m) + (keyE n arcs (T.last.getD (backN (keyE n arcs) T v k) (-1))).w
      rw [show n + 1 + (k - (n + 1)) = k from by omega, ← hP, hkk2 k]
      obtain ⟨l, g1, g2, g3, g4⟩ := hlnk k
      rw [g4, List.getD_eq_getElem?_getD, g1]
      simp only [Option.getD_some]
      omega) hM1
    rw [← hP, hM2, hQ, hQ, show n + 1 + M - (n + 1) = M from by omega, Nat.sub_self] at hf
    simp only [wsum] at hf
    rcases hf with hf | hf
    · omega
    · omega

/-- The links of the first steps round a cycle. -/
def cycL (n : Nat) (arcs : List Lnk) (kk : Nat → Nat) (m : Nat) : List Lnk := (List.range m).map fun i => arcs.getD (kk (n + 1 + i) / 2) ⟨0, 0, 0, 0⟩

theorem cycL_succ (n : Nat) (arcs : List Lnk) (kk : Nat → Nat) (m : Nat) : cycL n arcs kk (m + 1) = cycL n arcs kk m ++ [arcs.getD (kk (n + 1 + m) / 2) ⟨0, 0, 0, 0⟩] := by
  unfold cycL; rw [List.range_succ, List.map_append]; rfl

end Proofs
end Go

namespace Go.Proofs
open Go.Sx

theorem cycle_t (n : Nat) (arcs : List Lnk) (T : Tr) (v : Nat) (P kk : Nat → Nat) (M : Nat) (hn : n ≤ 1000) (ha : arcs.length ≤ 10000) (hl1 : T.sum.length = n + 1) (hl2 : T.there.length = n + 1) (hl3 : T.last.length = n + 1) (h : Cyc n arcs T v P kk M) :
    Triple Try.prog 136 [.c (.p 0 0 0 0), .agg [.s 2 0 (n + 1) 1, .s 3 0 (n + 1) 1, .s 4 0 (n + 1) 1], iv .i64 v]
      [(0, false, .cells [.v (.int .i64 n), .s 1 0 arcs.length 4]), (1, false, .arr (aLink arcs)), (2, false, .arr (aInt T.sum)), (3, false, .arr (aBool T.there)), (4, false, .arr (aInt T.last))] 5
      (.c (.s 5 0 (cycL n arcs kk M).reverse.length 4)) [(5, true, .arr (aLink (cycL n arcs kk M).reverse))] := by
  have hM := h.len
  have hM1 := h.pos
  have bef : ∀ m, Triple Try.prog 105 [.c (.p 0 0 0 0), .agg [.s 2 0 (n + 1) 1, .s 3 0 (n + 1) 1, .s 4 0 (n + 1) 1], iv .i64 (P m)]
      [(0, false, .cells [.v (.int .i64 n), .s 1 0 arcs.length 4]), (1, false, .arr (aLink arcs)), (2, false, .arr (aInt T.sum)), (3, false, .arr (aBool T.there)), (4, false, .arr (aInt T.last))] 5 (iv .i64 (P (m + 1))) [] := fun m =>
    before_t n arcs T.last (P m) (kk m) (P (m + 1)) T.sum T.there (n + 1) hn hl3 (h.lst m) (by have := befF_lt (h.bef m); omega) (h.bef m)
  have hP0 := h.start
  subst hP0
  refine triple_of tB_ok Try.func136 rfl Try.call136 rfl ?_
  intro ρ w hH
  conv => whnf
  refine ⟨(n : Int) + 1, wrapId (z := (n : Int) + 1) ⟨by omega, by omega⟩, ?_⟩
  conv => whnf
  refine loop_step tB_ok (G := Nat) 0 [] (fun m => [(14, iv .i64 m), (2, iv .i64 (P m))]) (fun _ => []) (fun m => m ≤ n + 1) (fun m => n + 1 - m) ?_
  conv => whnf
  refine ⟨⟨0, Nat.zero_le _, ?_⟩, ?_⟩
  · conv => whnf
    repeat' (first | exact trivial | exact rfl | refine And.intro ?_ ?_ | ((conv => whnf); first | exact trivial | exact rfl | refine And.intro ?_ ?_ | omega))
  intro m hm ρ1 t1 hρ1
  conv => whnf
  refine ⟨fun hc => ?_, fun hc => ?_⟩
  · have hlt : m < n + 1 := by have := of_decide_eq_true (show decide ((m : Int) < (n : Int) + 1) = true from hc); omega
    conv => whnf
    refine call_step (bef m) rfl rfl ?_
    conv => whnf
    refine ⟨(by repeat' (first | exact trivial | exact rfl | refine And.intro ?_ ?_ | ((conv => whnf); first | exact trivial | exact rfl | refine And.intro ?_ ?_ | omega))), (by repeat' (first | exact trivial | exact rfl | refine And.intro ?_ ?_ | ((conv => whnf); first | exact trivial | exact rfl | refine And.intro ?_ ?_ | omega))), ?_⟩
    conv => whnf
    refine ⟨(m : Int) + 1, wrapId (z := (m : Int) + 1) ⟨by omega, by omega⟩, ?_⟩
    refine ⟨m + 1, hlt, by show n + 1 - (m + 1) < n + 1 - m; omega, ?_⟩
    conv => whnf
    refine ⟨rfl, ?_⟩
    conv => whnf
    repeat' (first | exact trivial | exact rfl | refine And.intro ?_ ?_ | ((conv => whnf); first | exact trivial | exact rfl | refine And.intro ?_ ?_ | omega))
  have hme : m = n + 1 := by have := of_decide_eq_false (show decide ((m : Int) < (n : Int) + 1) = false from hc); omega
  subst hme
  conv => whnf
  refine loop_step tB_ok (G := Nat × List Lnk) 1 [] (fun g => [(8, iv .i64 (P (n + 1 + g.1))), (7, .c (.s 6 0 g.2.length 4))]) (fun g => [(6, true, .arr (aLink g.2))]) (fun g => g.1 < M ∧ g.2 = cycL n arcs kk g.1) (fun g => M - g.1) ?_
  conv => whnf
  refine ⟨⟨(0, []), ⟨hM1, rfl⟩, ?_⟩, ?_⟩
  · conv => whnf
    repeat' (first | exact trivial | exact rfl | refine And.intro ?_ ?_ | ((conv => whnf); first | exact trivial | exact rfl | refine And.intro ?_ ?_ | omega))
  rintro ⟨i, out⟩ ⟨hi, hout⟩ ρ2 t2 hρ2
  have hi : i < M := hi
  have hout : out = cycL n arcs kk i := hout
  have hol : out.length = i := by rw [hout]; simp [cycL]
  dsimp only
  have hle := h.le (n + 1 + i)
  have hla := h.lst (n + 1 + i)
  have hbe := bef (n + 1 + i)
  have hkl := befF_lt (h.bef (n + 1 + i))
  obtain ⟨hpl, hpe⟩ := List.getElem?_eq_some_iff.1 hla
  have hdiv : IntKind.i64.wrap (Int.tdiv T.last[P (n + 1 + i)] 2) = ((kk (n + 1 + i) / 2 : Nat) : Int) := by rw [hpe]; exact wrapId (z := ((kk (n + 1 + i) / 2 : Nat) : Int)) ⟨by omega, by omega⟩
  have hst := cycL_succ n arcs kk i
  rw [← hout, List.getD_eq_getElem?_getD, List.getElem?_eq_getElem hkl, Option.getD_some] at hst
  have hper := h.per
  have hlow := h.low (i + 1) (by omega)
  have hnext : P (n + 1 + i + 1) = P (n + 1 + (i + 1)) := rfl
  have hfin : i + 1 = M → cycL n arcs kk M = cycL n arcs kk (i + 1) := fun he => by rw [he]
  obtain ⟨j, hj⟩ : ∃ j, j = kk (n + 1 + i) / 2 := ⟨_, rfl⟩
  simp only [← hj] at hdiv hkl hst
  clear hla
  conv => whnf
  refine ⟨P (n + 1 + i), rfl, by omega, hpl, ?_⟩
  conv => whnf
  refine ⟨by decide, (j : Int), hdiv, ?_⟩
  conv => whnf
  refine ⟨j, rfl, hkl, hkl, ?_⟩
  conv => whnf
  refine bs_step tB_ok (aLink [arcs[j]]) rfl rfl ?_
  conv => whnf
  refine ⟨⟨rfl, ⟨rfl, rfl, rfl, rfl, trivial⟩⟩, ?_⟩
  conv => whnf
  refine app_step tB_ok (aLink out) [arcs[j]] (fun _ => rfl) rfl rfl rfl rfl ?_
  conv => whnf
  refine ⟨⟨rfl, rfl, Nat.le_refl _, Nat.le_refl _, by show (out.length + 1) * 33 ≤ _; omega⟩, ?_⟩
  conv => whnf
  refine call_step hbe rfl rfl ?_
  conv => whnf
  refine ⟨(by repeat' (first | exact trivial | exact rfl | refine And.intro ?_ ?_ | ((conv => whnf); first | exact trivial | exact rfl | refine And.intro ?_ ?_ | omega))), (by repeat' (first | exact trivial | exact rfl | refine And.intro ?_ ?_ | ((conv => whnf); first | exact trivial | exact rfl | refine And.intro ?_ ?_ | omega))), ?_⟩
  conv => whnf
  refine ⟨fun hc => ?_, fun hc => ?_⟩
  · have he : P (n + 1 + i + 1) = P (n + 1) := by
      have := (show ((P (n + 1 + i + 1) : Int) == ((P (n + 1) : Nat) : Int)) = true from hc)
      simp at this; omega
    have hie : i + 1 = M := by
      rcases Nat.lt_or_ge (i + 1) M with hlt | hge
      · exact absurd he (hlow hlt)
      · omega
    have hfin := hfin hie
    rw [hst] at hfin
    have hrv : Triple Try.prog 106 [.c (.s 0 0 (out.length + 1) 4)] [(0, true, .arr (aLink (List.take out.length out ++ List.take 1 (List.drop 0 [arcs[j]]))))] 1 (.tup []) [(0, true, .arr (aLink (out ++ [arcs[j]]).reverse))] := by
      have h1 : (out ++ [arcs[j]]).length = out.length + 1 := by simp
      have := reverse_t (out ++ [arcs[j]]) (by omega)
      rw [app1]
      rwa [h1] at this
    conv => whnf
    rw [hfin]
    refine call_step hrv rfl rfl ?_
    conv => whnf
    refine ⟨(by repeat' (first | exact trivial | exact rfl | refine And.intro ?_ ?_ | ((conv => whnf); first | exact trivial | exact rfl | refine And.intro ?_ ?_ | omega))), (by repeat' (first | exact trivial | exact rfl | refine And.intro ?_ ?_ | ((conv => whnf); first | exact trivial | exact rfl | refine And.intro ?_ ?_ | omega))), ?_⟩
    conv => whnf
    repeat' (first | exact trivial | exact rfl | refine And.intro ?_ ?_ | ((conv => whnf); first | exact trivial | exact rfl | refine And.intro ?_ ?_ | omega))
    all_goals simp
  · have he : P (n + 1 + i + 1) ≠ P (n + 1) := by
      have := (show ((P (n + 1 + i + 1) : Int) == ((P (n + 1) : Nat) : Int)) = false from hc)
      simp at this; omega
    have hlt : i + 1 < M := by
      rcases Nat.lt_or_ge (i + 1) M with hlt | hge
      · exact hlt
      · exfalso
        have : i + 1 = M := by omega
        rw [hnext, this] at he
        exact he hper
    conv => whnf
    refine ⟨(i + 1, out ++ [arcs[j]]), ⟨hlt, hst.symm⟩, by show M - (i + 1) < M - i; omega, ?_⟩
    conv => whnf
    refine ⟨rfl, ?_⟩
    conv => whnf
    repeat' (first | exact trivial | exact rfl | refine And.intro ?_ ?_ | ((conv => whnf); first | exact trivial | exact rfl | refine And.intro ?_ ?_ | omega))
    all_goals first | exact (congrArg aLink app1 : _) | simp

theorem clash_t (n : Nat) (arcs : List Lnk) (v : Nat) (P kk : Nat → Nat) (M : Nat) (hn : n ≤ 1000) (hl : arcs.length ≤ 10000) (hok : ∀ l ∈ arcs, ArcOK n l) (hch : (shortF n noRev arcs n).2 = ((v : Nat) : Int)) (h : Cyc n arcs (shortF n noRev arcs n).1 v P kk M) :
    Triple Try.prog 96 [.c (.p 0 0 0 0)] (graphH n arcs) 2 (.tup [.inl (.s 2 0 (cycL n arcs kk M).reverse.length 4), .inl (.b true)]) [(2, true, .arr (aLink (cycL n arcs kk M).reverse))] := by
  have hlen := shortF_len n noRev arcs n hok
  obtain ⟨hl1, hl2, hl3⟩ := hlen
  refine triple_of tB_ok Try.func96 rfl Try.call96 rfl ?_
  intro ρ w hH
  conv => whnf
  refine call_step (plain_t n arcs n hn hl hok (Nat.le_refl _)) rfl rfl ?_
  conv => whnf
  refine ⟨(by repeat' (first | exact trivial | exact rfl | refine And.intro ?_ ?_ | ((conv => whnf); first | exact trivial | exact rfl | refine And.intro ?_ ?_ | omega))), (by repeat' (first | exact trivial | exact rfl | refine And.intro ?_ ?_ | ((conv => whnf); first | exact trivial | exact rfl | refine And.intro ?_ ?_ | omega))), ?_⟩
  conv => whnf
  rw [hch]
  generalize (shortF n noRev arcs n).1 = T at *
  refine ⟨fun hc => ?_, fun hc => ?_⟩
  · have := (show ((v : Int) == -1) = true from hc)
    simp at this
  conv => whnf
  refine call_step (cycle_t n arcs T v P kk M hn hl hl1 hl2 hl3 h) rfl rfl ?_
  conv => whnf
  refine ⟨(by repeat' (first | exact trivial | exact rfl | refine And.intro ?_ ?_ | ((conv => whnf); first | exact trivial | exact rfl | refine And.intro ?_ ?_ | omega))), (by repeat' (first | exact trivial | exact rfl | refine And.intro ?_ ?_ | ((conv => whnf); first | exact trivial | exact rfl | refine And.intro ?_ ?_ | omega))), ?_⟩
  conv => whnf
  repeat' (first | exact trivial | exact rfl | refine And.intro ?_ ?_ | ((conv => whnf); first | exact trivial | exact rfl | refine And.intro ?_ ?_ | omega))

/-- Whether a cycle is found in a system without the links of a reading. -/
def clashB (bs : List (Int × Int)) (ls : List Lnk) (k : Int) : Bool := decide ((shortF bs.length noRev (graphF bs ls k) bs.length).2 ≠ -1)

theorem conflictYes_t (bs : List (Int × Int)) (ls : List Lnk) (v : Nat) (P kk : Nat → Nat) (M : Nat) (hs : SysOK bs ls) (hch : (shortF bs.length noRev (graphF bs ls 0) bs.length).2 = ((v : Nat) : Int)) (h : Cyc bs.length (graphF bs ls 0) (shortF bs.length noRev (graphF bs ls 0) bs.length).1 v P kk M) :
    Triple Try.prog 36 [sysA bs.length ls.length] (sysH bs ls) 2 (.tup [.inl (.s 2 0 (cycL bs.length (graphF bs ls 0) kk M).reverse.length 4), .inl (.b true), .inl (.v (.int .i64 0))]) [(2, true, .arr (aLink (cycL bs.length (graphF bs ls 0) kk M).reverse))] := by
  have hnb := hs.nb
  have hnl := hs.nl
  have hgl := graphF_len hs 0
  refine triple_of tB_ok Try.func36 rfl Try.call36 rfl ?_
  intro ρ w hH
  conv => whnf
  refine call_step (check_t bs ls (by omega) (by omega)) rfl rfl ?_
  conv => whnf
  refine ⟨(by repeat' (first | exact trivial | exact rfl | refine And.intro ?_ ?_ | ((conv => whnf); first | exact trivial | exact rfl | refine And.intro ?_ ?_ | omega))), (by repeat' (first | exact trivial | exact rfl | refine And.intro ?_ ?_ | ((conv => whnf); first | exact trivial | exact rfl | refine And.intro ?_ ?_ | omega))), ?_⟩
  conv => whnf
  rw [checkF_ok.2 hs]
  refine ⟨fun hc => absurd hc (by simp), fun hc => ?_⟩
  conv => whnf
  refine call_step (graphOf_t bs ls 0 (by omega) hs.boxB (by omega)) rfl rfl ?_
  conv => whnf
  refine ⟨(by repeat' (first | exact trivial | exact rfl | refine And.intro ?_ ?_ | ((conv => whnf); first | exact trivial | exact rfl | refine And.intro ?_ ?_ | omega))), (by repeat' (first | exact trivial | exact rfl | refine And.intro ?_ ?_ | ((conv => whnf); first | exact trivial | exact rfl | refine And.intro ?_ ?_ | omega))), ?_⟩
  conv => whnf
  refine call_step (clash_t bs.length (graphF bs ls 0) v P kk M (by omega) (by omega) (graphF_ok hs 0) hch h) rfl rfl ?_
  conv => whnf
  refine ⟨(by repeat' (first | exact trivial | exact rfl | refine And.intro ?_ ?_ | ((conv => whnf); first | exact trivial | exact rfl | refine And.intro ?_ ?_ | omega))), (by repeat' (first | exact trivial | exact rfl | refine And.intro ?_ ?_ | ((conv => whnf); first | exact trivial | exact rfl | refine And.intro ?_ ?_ | omega))), ?_⟩
  conv => whnf
  repeat' (first | exact trivial | exact rfl | refine And.intro ?_ ?_ | ((conv => whnf); first | exact trivial | exact rfl | refine And.intro ?_ ?_ | omega))

theorem conflictErr_t (bs : List (Int × Int)) (ls : List Lnk) (hb : bs.length ≤ 1000000) (hl : ls.length ≤ 1000000) (hc : checkF bs ls ≠ 0) :
    Triple Try.prog 36 [sysA bs.length ls.length] (sysH bs ls) 2 (.tup [.inl (.v (.slice none 0 0)), .inl (.b false), .inl (.v (.int .i64 (checkF bs ls)))]) [] := by
  refine triple_of tB_ok Try.func36 rfl Try.call36 rfl ?_
  intro ρ w hH
  conv => whnf
  refine call_step (check_t bs ls hb hl) rfl rfl ?_
  conv => whnf
  refine ⟨(by repeat' (first | exact trivial | exact rfl | refine And.intro ?_ ?_ | ((conv => whnf); first | exact trivial | exact rfl | refine And.intro ?_ ?_ | omega))), (by repeat' (first | exact trivial | exact rfl | refine And.intro ?_ ?_ | ((conv => whnf); first | exact trivial | exact rfl | refine And.intro ?_ ?_ | omega))), ?_⟩
  conv => whnf
  generalize checkF bs ls = c at *
  refine ⟨fun hcc => ?_, fun hcc => ?_⟩
  · conv => whnf
    repeat' (first | exact trivial | exact rfl | refine And.intro ?_ ?_ | ((conv => whnf); first | exact trivial | exact rfl | refine And.intro ?_ ?_ | omega))
  · exact absurd (by simpa using hcc) hc

end Go.Proofs

namespace Go.Proofs
open Go.Sx

/-! ### The reference implementation's -/

/-! ### The law -/

theorem few_calm {bs : List (Int × Int)} {ls : List Lnk} (hs : SysOK bs ls) (hf : bs.length ≤ 14 ∧ ls.length ≤ 40) (k : Int) : (fromF bs.length (graphF bs ls k) (-1)).isSome = !clashB bs ls k := by
  have hl : (graphF bs ls k).length ≤ 200 := by
    have := allF_len bs ls
    refine Nat.le_trans (List.length_filter_le _ _) ?_
    omega
  have hp : plc bs.length (-1) = bs.length := rfl
  cases h : (fromF bs.length (graphF bs ls k) (-1)).isSome with
  | true =>
    obtain ⟨o, ho⟩ := Option.isSome_iff_exists.1 h
    have := from_calm hf.1 hl (graphF_ok hs k) ⟨by omega, by omega⟩ ho
    rw [hp] at this
    have e : clashB bs ls k = false := decide_eq_false (fun hn => hn this)
    rw [e]; rfl
  | false =>
    have e : clashB bs ls k = true := by
      refine decide_eq_true fun hc => ?_
      have := calm_from hf.1 hl (graphF_ok hs k) (hub_graph bs ls k) (a := -1) ⟨by omega, by omega⟩ (by rw [hp]; exact hc)
      rw [h] at this; cases this
    rw [e]; rfl

end Go.Proofs

/-
  Plain lemmas, part 13: a flow over the arcs of a system: what it brings to each place, and how a path changes it. Conditions: none; definitions and plain lemmas.
-/
namespace Go
namespace Proofs

def sumR : Nat → (Nat → Int) → Int
  | 0, _ => 0
  | k + 1, f => sumR k f + f k

def ind (p : Prop) [Decidable p] : Int := if p then 1 else 0

theorem ind_true {p : Prop} [Decidable p] (h : p) : ind p = 1 := if_pos h
theorem ind_false {p : Prop} [Decidable p] (h : ¬ p) : ind p = 0 := if_neg h

theorem sumR_congr {f g : Nat → Int} : ∀ {k : Nat}, (∀ v, v < k → f v = g v) → sumR k f = sumR k g
  | 0, _ => rfl
  | k + 1, h => by
    simp only [sumR]
    rw [sumR_congr fun v hv => h v (by omega), h k (by omega)]

theorem sumR_add (f g : Nat → Int) : ∀ k, sumR k (fun v => f v + g v) = sumR k f + sumR k g
  | 0 => rfl
  | k + 1 => by simp only [sumR, sumR_add f g k]; omega

theorem sumR_mul (c : Int) (f : Nat → Int) : ∀ k, sumR k (fun v => c * f v) = c * sumR k f
  | 0 => by simp [sumR]
  | k + 1 => by simp only [sumR, sumR_mul c f k, Int.mul_add]

theorem sumR_zero : ∀ k, sumR k (fun _ => 0) = 0
  | 0 => rfl
  | k + 1 => by simp only [sumR, sumR_zero k]; rfl

theorem sumR_le {f g : Nat → Int} : ∀ {k : Nat}, (∀ v, v < k → f v ≤ g v) → sumR k f ≤ sumR k g
  | 0, _ => Int.le_refl _
  | k + 1, h => by
    have h1 := sumR_le (k := k) fun v hv => h v (by omega)
    have h2 := h k (by omega)
    simp only [sumR]; omega

theorem sumR_ind (q : Nat → Int) {t : Nat} : ∀ {k : Nat}, t < k → sumR k (fun v => ind (t = v) * q v) = q t
  | 0, h => by omega
  | k + 1, h => by
    simp only [sumR]
    by_cases hk : t = k
    · subst hk
      rw [sumR_congr (g := fun _ => 0) fun v hv => by rw [ind_false (by omega), Int.zero_mul], sumR_zero, ind_true rfl]; omega
    · rw [sumR_ind q (by omega), ind_false hk]; omega

/-- A sum where one term changes. -/
theorem sumR_set {f : Nat → Int} {i : Nat} {x : Int} : ∀ {k : Nat}, i < k → sumR k (fun v => if v = i then x else f v) = sumR k f - f i + x
  | 0, h => by omega
  | k + 1, h => by
    simp only [sumR]
    by_cases hk : i = k
    · subst hk
      rw [sumR_congr (g := f) fun v hv => by rw [if_neg (by omega)], if_pos rfl]; omega
    · rw [sumR_set (by omega), if_neg (fun h => hk h.symm)]; omega

theorem sumR_nonneg {f : Nat → Int} : ∀ {k : Nat}, (∀ v, v < k → 0 ≤ f v) → 0 ≤ sumR k f
  | 0, _ => Int.le_refl _
  | k + 1, h => by
    have h1 := sumR_nonneg (k := k) fun v hv => h v (by omega)
    have h2 := h k (by omega)
    simp only [sumR]; omega

theorem sumR_pos {f : Nat → Int} {i : Nat} : ∀ {k : Nat}, (∀ v, v < k → 0 ≤ f v) → i < k → f i ≤ sumR k f
  | 0, _, h => by omega
  | k + 1, h, hi => by
    have h1 := sumR_nonneg (k := k) fun v hv => h v (by omega)
    have h2 := h k (by omega)
    simp only [sumR]
    by_cases hk : i = k
    · subst hk; omega
    · have := sumR_pos (k := k) (fun v hv => h v (by omega)) (show i < k by omega); omega

theorem sumR_zero_all {f : Nat → Int} : ∀ {k : Nat}, (∀ v, v < k → 0 ≤ f v) → sumR k f = 0 → ∀ v, v < k → f v = 0 := fun {k} h hs v hv => by
  have := sumR_pos h hv
  have := h v hv
  omega

/-- What a flow brings to a place. -/
def netV (n : Nat) : List Lnk → List Int → Nat → Int
  | l :: r, x :: s, v => x * (ind (plc n l.t = v) - ind (plc n l.f = v)) + netV n r s v
  | [], _, _ => 0
  | _ :: _, [], _ => 0

def costV : List Lnk → List Int → Int
  | l :: r, x :: s => x * l.m + costV r s
  | [], _ => 0
  | _ :: _, [] => 0

theorem netV_zero (n v : Nat) : ∀ (arcs : List Lnk) (k : Nat), netV n arcs (List.replicate k 0) v = 0
  | [], k => by cases k <;> rfl
  | l :: r, 0 => rfl
  | l :: r, k + 1 => by simp only [List.replicate_succ, netV, netV_zero n v r k]; omega

theorem netV_set (n v : Nat) (d : Int) : ∀ {arcs : List Lnk} {flow : List Int} {i : Nat} {l : Lnk}, arcs[i]? = some l → i < flow.length →
    netV n arcs (flow.set i (flow.getD i 0 + d)) v = netV n arcs flow v + d * (ind (plc n l.t = v) - ind (plc n l.f = v))
  | [], _, _, _, h, _ => by simp at h
  | a :: r, [], _, _, _, h => by simp at h
  | a :: r, x :: s, 0, l, h, _ => by
    simp at h
    subst h
    simp only [List.set_cons_zero, netV, List.getD_cons_zero, Int.add_mul]
    omega
  | a :: r, x :: s, i + 1, l, h, hi => by
    have := netV_set n v d (arcs := r) (flow := s) (i := i) (l := l) (by simpa using h) (by simpa using hi)
    simp only [List.set_cons_succ, netV, List.getD_cons_succ, this]
    omega

/-- Prices: what a flow carries, over the places and over the arcs. -/
theorem netV_dot (n : Nat) (q : Nat → Int) : ∀ {arcs : List Lnk} {flow : List Int}, (∀ l ∈ arcs, ArcOK n l) → arcs.length = flow.length → (∀ i l, arcs[i]? = some l → 0 < flow.getD i 0 → q (plc n l.t) - q (plc n l.f) = l.m) → (∀ i, 0 ≤ flow.getD i 0) →
    sumR (n + 1) (fun v => netV n arcs flow v * q v) = costV arcs flow
  | [], flow, _, _, _, _ => by
    rw [sumR_congr (g := fun _ => 0) fun v _ => by simp [netV], sumR_zero]
    cases flow <;> rfl
  | l :: r, [], _, h, _, _ => by simp at h
  | l :: r, x :: s, hok, hl, hc, hp => by
    have ih := netV_dot n q (arcs := r) (flow := s) (fun l hl => hok l (List.mem_cons_of_mem _ hl)) (by simpa using hl) (fun i l h1 h2 => hc (i + 1) l (by simpa using h1) (by simpa using h2)) (fun i => by have := hp (i + 1); simpa using this)
    obtain ⟨o1, o2, o3⟩ := hok l (List.mem_cons_self ..)
    have t1 := plc_le o1.2
    have t2 := plc_le o2.2
    have e1 : sumR (n + 1) (fun v => netV n (l :: r) (x :: s) v * q v) = sumR (n + 1) (fun v => x * (ind (plc n l.t = v) * q v) + ((-x) * (ind (plc n l.f = v) * q v) + netV n r s v * q v)) := by
      refine sumR_congr fun v _ => ?_
      simp only [netV, Int.add_mul, Int.mul_sub, Int.sub_mul, Int.neg_mul, Int.mul_assoc]
      omega
    rw [e1, sumR_add, sumR_add, sumR_mul, sumR_mul, ih, sumR_ind q (by omega), sumR_ind q (by omega)]
    simp only [costV]
    have h0 := hp 0
    rw [List.getD_cons_zero] at h0
    rcases Int.lt_or_eq_of_le h0 with hx | hx
    · have := hc 0 l rfl (by simpa using hx)
      rw [← this, Int.mul_sub, Int.neg_mul]; omega
    · rw [← hx]; simp

/-- A flow over arcs never costs less than the prices of what it brings, for prices that no arc contradicts. -/
theorem netV_le (n : Nat) (q : Nat → Int) : ∀ {arcs : List Lnk} {flow : List Int}, (∀ l ∈ arcs, ArcOK n l) → arcs.length = flow.length → PotL n q arcs → (∀ i, 0 ≤ flow.getD i 0) →
    sumR (n + 1) (fun v => netV n arcs flow v * q v) ≤ costV arcs flow
  | [], flow, _, _, _, _ => by
    rw [sumR_congr (g := fun _ => 0) fun v _ => by simp [netV], sumR_zero]
    cases flow <;> exact Int.le_refl _
  | l :: r, [], _, h, _, _ => by simp at h
  | l :: r, x :: s, hok, hl, hc, hp => by
    have ih := netV_le n q (arcs := r) (flow := s) (fun l hl => hok l (List.mem_cons_of_mem _ hl)) (by simpa using hl) (fun l hl => hc l (List.mem_cons_of_mem _ hl)) (fun i => by have := hp (i + 1); simpa using this)
    obtain ⟨o1, o2, o3⟩ := hok l (List.mem_cons_self ..)
    have t1 := plc_le o1.2
    have t2 := plc_le o2.2
    have e1 : sumR (n + 1) (fun v => netV n (l :: r) (x :: s) v * q v) = sumR (n + 1) (fun v => x * (ind (plc n l.t = v) * q v) + ((-x) * (ind (plc n l.f = v) * q v) + netV n r s v * q v)) := by
      refine sumR_congr fun v _ => ?_
      simp only [netV, Int.add_mul, Int.mul_sub, Int.sub_mul, Int.neg_mul, Int.mul_assoc]
      omega
    rw [e1, sumR_add, sumR_add, sumR_mul, sumR_mul, sumR_ind q (by omega), sumR_ind q (by omega)]
    simp only [costV]
    have h0 := hp 0
    rw [List.getD_cons_zero] at h0
    have hq : q (plc n l.t) ≤ q (plc n l.f) + l.m := hc l (List.mem_cons_self ..)
    have := Int.mul_le_mul_of_nonneg_left (show q (plc n l.t) - q (plc n l.f) ≤ l.m by omega) h0
    rw [Int.mul_sub] at this
    rw [Int.neg_mul]
    omega

/-! ### A path -/

theorem amtF_le (flow : List Int) : ∀ (ks : List Nat) (a : Int), amtF flow ks a ≤ a ∧ ∀ k ∈ ks, k % 2 = 1 → amtF flow ks a ≤ flow.getD (k / 2) 0
  | [], a => ⟨Int.le_refl _, fun k hk => by cases hk⟩
  | k :: r, a => by
    simp only [amtF]
    by_cases hk : k % 2 = 1
    · rw [if_pos hk]
      obtain ⟨h1, h2⟩ := amtF_le flow r (min a (flow.getD (k / 2) 0))
      refine ⟨by omega, fun k' hk' ho => ?_⟩
      rcases List.mem_cons.1 hk' with rfl | hk'
      · omega
      · exact h2 k' hk' ho
    · rw [if_neg hk]
      obtain ⟨h1, h2⟩ := amtF_le flow r a
      refine ⟨h1, fun k' hk' ho => ?_⟩
      rcases List.mem_cons.1 hk' with rfl | hk'
      · exact absurd ho hk
      · exact h2 k' hk' ho

theorem amtF_pos (flow : List Int) : ∀ (ks : List Nat) (a : Int), 1 ≤ a → (∀ k ∈ ks, k % 2 = 1 → 1 ≤ flow.getD (k / 2) 0) → 1 ≤ amtF flow ks a
  | [], a, h, _ => h
  | k :: r, a, h, hf => by
    simp only [amtF]
    refine amtF_pos flow r _ ?_ fun k' hk' => hf k' (List.mem_cons_of_mem _ hk')
    split
    · rename_i hk
      have := hf k (List.mem_cons_self ..) hk
      omega
    · exact h

def kSum (n : Nat) (arcs : List Lnk) (v : Nat) : List Nat → Int
  | [] => 0
  | k :: r => (ind ((keyE n arcs k).b = v) - ind ((keyE n arcs k).a = v)) + kSum n arcs v r

theorem kSum_path {n : Nat} {arcs : List Lnk} {E : List Edg} {T : Tr} {ts : Nat → Nat} {src v : Nat} : ∀ {ks : List Nat} {p : Nat}, StepP n arcs E T ts src ks p → kSum n arcs v ks = ind (p = v) - ind (src = v)
  | [], p, h => by
    have h : p = src := h
    rw [h]; simp [kSum]
  | k :: r, p, h => by
    obtain ⟨_, _, _, hb, _, _, _, hr⟩ := h
    simp only [kSum]
    rw [kSum_path hr, hb]
    omega

theorem addF_some {n : Nat} {arcs : List Lnk} {rev : Nat → Bool} {a S : Int} (ha : 0 ≤ a) (hS : S + a ≤ 4611686018427387904) : ∀ {ks : List Nat} {flow : List Int}, flow.length = arcs.length → (ks.map fun k => k / 2).Nodup → (∀ k ∈ ks, keyE n arcs k ∈ edgs n rev 0 arcs ∧ (keyE n arcs k).k = (k : Int)) →
    (∀ i, 0 ≤ flow.getD i 0 ∧ flow.getD i 0 ≤ S) → (∀ k ∈ ks, k % 2 = 1 → a ≤ flow.getD (k / 2) 0) →
    ∃ flow', addF a ks flow = some flow' ∧ flow'.length = flow.length ∧ (∀ i, (∀ k ∈ ks, k / 2 ≠ i) → flow'.getD i 0 = flow.getD i 0) ∧ (∀ k ∈ ks, flow'.getD (k / 2) 0 = flow.getD (k / 2) 0 + a * (1 - 2 * ((k % 2 : Nat) : Int))) ∧
      ∀ v, netV n arcs flow' v = netV n arcs flow v + a * kSum n arcs v ks
  | [], flow, _, _, _, _, _ => ⟨flow, rfl, rfl, fun i _ => rfl, fun k hk => (by cases hk), fun v => by simp [kSum]⟩
  | k :: r, flow, hl, hn, hk, hb, ho => by
    rw [List.map_cons, List.nodup_cons] at hn
    obtain ⟨hn1, hn2⟩ := hn
    obtain ⟨he, hkk⟩ := hk k (List.mem_cons_self ..)
    obtain ⟨_, _, l, hl0, hcase⟩ := key_befF he hkk
    have hkl : k / 2 < flow.length := by rw [hl]; exact (List.getElem?_eq_some_iff.1 hl0).1
    have hbk := hb (k / 2)
    obtain ⟨d, hd⟩ : ∃ d, d = a * (1 - 2 * ((k % 2 : Nat) : Int)) := ⟨_, rfl⟩
    have hdv : (k % 2 = 0 ∧ d = a) ∨ (k % 2 = 1 ∧ d = -a) := by
      rcases hcase with h | h
      · exact .inl ⟨h.1, by rw [hd, h.1]; simp⟩
      · exact .inr ⟨h.1, by rw [hd, h.1]; simp⟩
    have hx : 0 ≤ flow.getD (k / 2) 0 + d ∧ flow.getD (k / 2) 0 + d ≤ S + a := by
      rcases hdv with ⟨h1, h2⟩ | ⟨h1, h2⟩
      · omega
      · have := ho k (List.mem_cons_self ..) h1
        omega
    have hne : ∀ k' ∈ r, k' / 2 ≠ k / 2 := fun k' hk' he => hn1 (by rw [← he]; exact List.mem_map_of_mem hk')
    have hget : ∀ i, (flow.set (k / 2) (flow.getD (k / 2) 0 + d)).getD i 0 = if i = k / 2 then flow.getD (k / 2) 0 + d else flow.getD i 0 := fun i => getD_set hkl
    -- the values may rise above S at one place that the rest does not touch: take the rest on a list cut there
    have key : ∀ {ks : List Nat} {f : List Int}, f.length = arcs.length → (ks.map fun k => k / 2).Nodup → (∀ k ∈ ks, keyE n arcs k ∈ edgs n rev 0 arcs ∧ (keyE n arcs k).k = (k : Int)) → (∀ k ∈ ks, 0 ≤ f.getD (k / 2) 0 ∧ f.getD (k / 2) 0 ≤ S) →
        (∀ k ∈ ks, k % 2 = 1 → a ≤ f.getD (k / 2) 0) →
        ∃ f', addF a ks f = some f' ∧ f'.length = f.length ∧ (∀ i, (∀ k ∈ ks, k / 2 ≠ i) → f'.getD i 0 = f.getD i 0) ∧ (∀ k ∈ ks, f'.getD (k / 2) 0 = f.getD (k / 2) 0 + a * (1 - 2 * ((k % 2 : Nat) : Int))) ∧
          ∀ v, netV n arcs f' v = netV n arcs f v + a * kSum n arcs v ks := by
      intro ks
      induction ks with
      | nil => intro f _ _ _ _ _; exact ⟨f, rfl, rfl, fun i _ => rfl, fun k hk => (by cases hk), fun v => by simp [kSum]⟩
      | cons k r ih =>
        intro f hl hn hk hb ho
        rw [List.map_cons, List.nodup_cons] at hn
        obtain ⟨hn1, hn2⟩ := hn
        obtain ⟨he, hkk⟩ := hk k (List.mem_cons_self ..)
        obtain ⟨_, _, l, hl0, hcase⟩ := key_befF he hkk
        have hkl : k / 2 < f.length := by rw [hl]; exact (List.getElem?_eq_some_iff.1 hl0).1
        have hbk := hb k (List.mem_cons_self ..)
        obtain ⟨d, hd⟩ : ∃ d, d = a * (1 - 2 * ((k % 2 : Nat) : Int)) := ⟨_, rfl⟩
        have hdv : (k % 2 = 0 ∧ d = a) ∨ (k % 2 = 1 ∧ d = -a) := by
          rcases hcase with h | h
          · exact .inl ⟨h.1, by rw [hd, h.1]; simp⟩
          · exact .inr ⟨h.1, by rw [hd, h.1]; simp⟩
        have hx : 0 ≤ f.getD (k / 2) 0 + d ∧ f.getD (k / 2) 0 + d ≤ S + a := by
          rcases hdv with ⟨h1, h2⟩ | ⟨h1, h2⟩
          · omega
          · have := ho k (List.mem_cons_self ..) h1
            omega
        have hne : ∀ k' ∈ r, k' / 2 ≠ k / 2 := fun k' hk' he => hn1 (by rw [← he]; exact List.mem_map_of_mem hk')
        have hget : ∀ i, (f.set (k / 2) (f.getD (k / 2) 0 + d)).getD i 0 = if i = k / 2 then f.getD (k / 2) 0 + d else f.getD i 0 := fun i => getD_set hkl
        obtain ⟨f', g1, g2, g3, g4, g5⟩ := ih (f := f.set (k / 2) (f.getD (k / 2) 0 + d)) (by simpa using hl) hn2 (fun k' hk' => hk k' (List.mem_cons_of_mem _ hk')) (fun k' hk' => by rw [hget, if_neg (hne k' hk')]; exact hb k' (List.mem_cons_of_mem _ hk'))
          (fun k' hk' h1 => by rw [hget, if_neg (hne k' hk')]; exact ho k' (List.mem_cons_of_mem _ hk') h1)
        refine ⟨f', ?_, by rw [g2]; simp, fun i hi => ?_, fun k' hk' => ?_, fun v => ?_⟩
        · unfold addF
          simp only [← hd]
          rw [if_pos (by rw [Bool.and_eq_true, inI_iff, inI_iff]; rcases hdv with h | h <;> omega)]
          exact g1
        · rw [g3 i fun k' hk' => hi k' (List.mem_cons_of_mem _ hk'), hget, if_neg (fun he => hi k (List.mem_cons_self ..) he.symm)]
        · rcases List.mem_cons.1 hk' with rfl | hk'
          · rw [g3 _ fun k'' hk'' => hne k'' hk'', hget, if_pos rfl, hd]
          · rw [g4 k' hk', hget, if_neg (hne k' hk')]
        · rw [g5, netV_set n v d hl0 hkl]
          simp only [kSum]
          rw [Int.mul_add, ← Int.add_assoc]
          congr 2
          rcases hcase with ⟨h1, h2, h3, _⟩ | ⟨h1, _, h2, h3, _⟩
          · rw [h2, h3]
            rcases hdv with h | h
            · rw [h.2]
            · omega
          · rw [h2, h3]
            rcases hdv with h | h
            · omega
            · rw [h.2, Int.neg_mul, Int.mul_sub, Int.mul_sub]; omega
    exact key hl (by rw [List.map_cons, List.nodup_cons]; exact ⟨hn1, hn2⟩) hk (fun k _ => hb (k / 2)) ho

end Proofs
end Go

/-
  Plain lemmas, part 14: the greatest value of a form is found: the flow is carried along cheapest paths until nothing is left. Conditions: none; definitions and plain lemmas.
-/
namespace Go
namespace Proofs

structure Flo (n : Nat) (arcs : List Lnk) (need0 : List Int) (S : Int) (need flow : List Int) : Prop where
  fl : flow.length = arcs.length
  nl : need.length = n + 1
  fp : ∀ i, 0 ≤ flow.getD i 0
  cons : ∀ v, v ≤ n → need.getD v 0 + netV n arcs flow v = need0.getD v 0
  pot : ∃ q : Nat → Int, Pot q (edgs n (flowRev flow) 0 arcs)
  bd : ∀ i, flow.getD i 0 + sumR (n + 1) (fun v => max (need.getD v 0) 0) ≤ S
  sm : sumR (n + 1) (fun v => need.getD v 0) = 0

theorem Flo.posS {n : Nat} {arcs : List Lnk} {need0 : List Int} {S : Int} {need flow : List Int} (h : Flo n arcs need0 S need flow) : sumR (n + 1) (fun v => max (need.getD v 0) 0) ≤ S := by
  have h1 := h.bd flow.length
  have h2 := h.fp flow.length
  omega

theorem Flo.need {n : Nat} {arcs : List Lnk} {need0 : List Int} {S : Int} {need flow : List Int} (h : Flo n arcs need0 S need flow) {v : Nat} (hv : v ≤ n) : -S ≤ need.getD v 0 ∧ need.getD v 0 ≤ S := by
  have hp := h.posS
  have h1 := sumR_pos (f := fun v => max (need.getD v 0) 0) (k := n + 1) (i := v) (fun w _ => by show 0 ≤ max (need.getD w 0) 0; omega) (by omega)
  have h1 : max (need.getD v 0) 0 ≤ sumR (n + 1) (fun v => max (need.getD v 0) 0) := h1
  have h2 := sumR_set (f := fun v => need.getD v 0) (i := v) (x := 0) (k := n + 1) (by omega)
  have h3 := sumR_le (f := fun w => if w = v then 0 else need.getD w 0) (g := fun v => max (need.getD v 0) 0) (k := n + 1) (fun w _ => by show (if w = v then 0 else need.getD w 0) ≤ max (need.getD w 0) 0; split <;> omega)
  rw [h2, h.sm] at h3
  have h3 : 0 - need.getD v 0 + 0 ≤ sumR (n + 1) (fun v => max (need.getD v 0) 0) := h3
  omega

theorem pickF_cases (need sum : List Int) : ∀ i, (pickF need sum i = -1 ∧ ∀ k, k < i → need.getD k 0 ≤ 0) ∨ ∃ k : Nat, k < i ∧ pickF need sum i = k ∧ 0 < need.getD k 0
  | 0 => .inl ⟨rfl, fun k hk => by omega⟩
  | i + 1 => by
    rw [pickF]
    by_cases hn : 0 < need.getD i 0
    · rcases pickF_cases need sum i with ⟨h, _⟩ | ⟨k, hk, h, h2⟩
      · right
        rw [h, if_pos (by rw [decide_eq_true hn]; simp)]
        exact ⟨i, Nat.lt_succ_self i, rfl, hn⟩
      · right
        split
        · exact ⟨i, Nat.lt_succ_self i, rfl, hn⟩
        · exact ⟨k, by omega, h, h2⟩
    · rw [if_neg (by rw [decide_eq_false hn]; simp)]
      rcases pickF_cases need sum i with ⟨h, h3⟩ | ⟨k, hk, h, h2⟩
      · refine .inl ⟨h, fun k hk => ?_⟩
        by_cases hki : k = i
        · subst hki; omega
        · exact h3 k (by omega)
      · exact .inr ⟨k, by omega, h, h2⟩

theorem StepP.desc {n : Nat} {arcs : List Lnk} {E : List Edg} {T : Tr} {ts : Nat → Nat} {src : Nat} : ∀ {ks : List Nat} {p : Nat}, StepP n arcs E T ts src ks p → ∀ k ∈ ks, ts (keyE n arcs k).a < ts (keyE n arcs k).b ∧ ts (keyE n arcs k).b ≤ ts p
  | [], _, _, _, hk => by cases hk
  | k :: r, p, h, k', hk' => by
    obtain ⟨_, _, _, hb, _, _, ht, hr⟩ := h
    rcases List.mem_cons.1 hk' with rfl | hk'
    · rw [hb]; exact ⟨ht, Nat.le_refl _⟩
    · have := StepP.desc hr k' hk'
      omega

theorem StepP.arcs {n : Nat} {arcs : List Lnk} {rev : Nat → Bool} {T : Tr} {ts : Nat → Nat} {src : Nat} : ∀ {ks : List Nat} {p : Nat}, StepP n arcs (edgs n rev 0 arcs) T ts src ks p → (ks.map fun k => k / 2).Nodup
  | [], _, _ => List.nodup_nil
  | k :: r, p, h => by
    have h' := h
    obtain ⟨_, he, hk, hb, _, _, ht, hr⟩ := h
    rw [List.map_cons, List.nodup_cons]
    refine ⟨fun hm => ?_, StepP.arcs hr⟩
    obtain ⟨k', hk', hkk⟩ := List.mem_map.1 hm
    have hd := hr.desc k' hk'
    have hmem : keyE n arcs k' ∈ edgs n rev 0 arcs ∧ (keyE n arcs k').k = (k' : Int) := by
      have : ∀ {ks : List Nat} {p : Nat}, StepP n arcs (edgs n rev 0 arcs) T ts src ks p → ∀ k ∈ ks, keyE n arcs k ∈ edgs n rev 0 arcs ∧ (keyE n arcs k).k = (k : Int) := by
        intro ks
        induction ks with
        | nil => intro p _ k hk; cases hk
        | cons k r ih =>
          intro p h k' hk'
          rcases List.mem_cons.1 hk' with rfl | hk'
          · exact ⟨h.2.1, h.2.2.1⟩
          · exact ih h.2.2.2.2.2.2.2 k' hk'
      exact this hr k' hk'
    obtain ⟨_, _, l1, g1, c1⟩ := key_befF he hk
    obtain ⟨_, _, l2, g2, c2⟩ := key_befF hmem.1 hmem.2
    have hkk : k' / 2 = k / 2 := hkk
    rw [hkk, g1] at g2
    have hl := Option.some.inj g2
    subst hl
    by_cases hkeq : k' = k
    · subst hkeq; omega
    · rcases c1 with ⟨d1, d2, d3, _⟩ | ⟨d1, _, d2, d3, _⟩ <;> rcases c2 with ⟨e1, e2, e3, _⟩ | ⟨e1, _, e2, e3, _⟩
      · omega
      · rw [e2, e3] at hd; rw [d2] at ht hd; rw [← hb, d3] at ht; omega
      · rw [e2, e3] at hd; rw [d2] at ht hd; rw [← hb, d3] at ht; omega
      · omega

theorem Flo.inner {n : Nat} {arcs : List Lnk} {need0 : List Int} {S : Int} (hok : ∀ l ∈ arcs, ArcOK n l) (hub : Hub n arcs) (hS : S ≤ 1152921504606846976) {src : Nat} (hs : src ≤ n) : ∀ (f : Nat) (need flow : List Int), Flo n arcs need0 S need flow → (-(need.getD src 0)).toNat < f →
    ∃ need' flow', innerF n arcs src f need flow = some (false, need', flow') ∧ Flo n arcs need0 S need' flow' ∧ 0 ≤ need'.getD src 0 ∧ ∀ v, v ≤ n → 0 ≤ need.getD v 0 → 0 ≤ need'.getD v 0
  | 0, _, _, _, h => by omega
  | f + 1, need, flow, h, hf => by
    by_cases hneg : need.getD src 0 < 0
    · obtain ⟨q, hq⟩ := h.pot
      have hr := rounds_pot (rev := flowRev flow) (k := n + 2) hok hq hs (by omega)
      obtain ⟨ts, hT⟩ := tree_of (rev := flowRev flow) hok hub hs hr.1
      have hTd : (shortF n (flowRev flow) arcs src).1 = (roundsF n (flowRev flow) arcs (n + 2) (startF n src)).1 := rfl
      rw [← hTd] at hT
      generalize hTT : (shortF n (flowRev flow) arcs src).1 = T at *
      have hE := edgs_ok (rev := flowRev flow) hok
      rcases pickF_cases need T.sum (n + 1) with ⟨_, hnone⟩ | ⟨to, hto, hpick, hpos⟩
      · exfalso
        have hz := sumR_zero_all (f := fun v => -need.getD v 0) (k := n + 1) (fun v hv => by have := hnone v hv; show 0 ≤ -need.getD v 0; omega) (by
          have e : sumR (n + 1) (fun v => -need.getD v 0) = (-1) * sumR (n + 1) (fun v => need.getD v 0) := by
            rw [← sumR_mul]; exact sumR_congr fun v _ => by omega
          rw [e, h.sm]; rfl) src (by omega)
        have hz : -need.getD src 0 = 0 := hz
        omega
      · have hne : to ≠ src := by rintro rfl; omega
        obtain ⟨ks, hst, hlen, hsp⟩ := hT.path hok hs (show to ≤ n by omega)
        have hnd := hsp.nodes hE (show to ≤ n by omega)
        have hodd : ∀ k ∈ ks, k % 2 = 1 → 1 ≤ flow.getD (k / 2) 0 := by
          intro k hk ho
          obtain ⟨_, _, _, he, hkk, _⟩ := hnd.1 k hk
          obtain ⟨_, _, l, hl, hcase⟩ := key_befF he hkk
          rcases hcase with h1 | h1
          · omega
          · have := h1.2.1
            simp only [flowRev, decide_eq_true_eq] at this
            omega
        obtain ⟨a, ha⟩ : ∃ a, a = amtF flow ks (min (-need.getD src 0) (need.getD to 0)) := ⟨_, rfl⟩
        have hle := amtF_le flow ks (min (-need.getD src 0) (need.getD to 0))
        rw [← ha] at hle
        have hpa : 1 ≤ a := by rw [ha]; exact amtF_pos flow ks _ (by omega) hodd
        have hns := h.need hs
        have hnt := h.need (show to ≤ n by omega)
        have hfb : ∀ i, 0 ≤ flow.getD i 0 ∧ flow.getD i 0 ≤ S := fun i => by
          have h1 := h.fp i
          have h2 := h.bd i
          have h3 := sumR_nonneg (f := fun v => max (need.getD v 0) 0) (k := n + 1) (fun w _ => by show 0 ≤ max (need.getD w 0) 0; omega)
          omega
        obtain ⟨flow', g1, g2, g3, g4, g5⟩ := addF_some (n := n) (arcs := arcs) (rev := flowRev flow) (a := a) (S := S) (by omega) (by omega) h.fl hsp.arcs (fun k hk => ⟨(hnd.1 k hk).2.2.2.1, (hnd.1 k hk).2.2.2.2.1⟩) hfb (fun k hk ho => hle.2 k hk ho)
        have hn1 : ∀ v, (need.set src (need.getD src 0 + a)).getD v 0 = if v = src then need.getD src 0 + a else need.getD v 0 := fun v => getD_set (by rw [h.nl]; omega)
        have hn1t : (need.set src (need.getD src 0 + a)).getD to 0 = need.getD to 0 := by rw [hn1, if_neg hne]
        obtain ⟨need2, hneed2⟩ : ∃ x, x = (need.set src (need.getD src 0 + a)).set to (need.getD to 0 - a) := ⟨_, rfl⟩
        have hn2 : ∀ v, need2.getD v 0 = if v = to then need.getD to 0 - a else if v = src then need.getD src 0 + a else need.getD v 0 := fun v => by
          rw [hneed2, getD_set (by rw [List.length_set, h.nl]; exact hto), hn1]
        have hstep : innerF n arcs src (f + 1) need flow = innerF n arcs src f need2 flow' := by
          rw [innerF, if_pos hneg]
          simp only [hTT, hpick]
          rw [if_neg (by omega)]
          simp only [Int.toNat_natCast, hst, ← ha, g1]
          rw [hn1t, ← hneed2, if_pos]
          rw [Bool.and_eq_true, Bool.and_eq_true, inI_iff, inI_iff, inI_iff]
          omega
        have hkSum : ∀ v, kSum n arcs v ks = ind (to = v) - ind (src = v) := fun v => kSum_path hsp
        have hF2 : Flo n arcs need0 S need2 flow' := by
          refine ⟨by rw [g2, h.fl], by rw [hneed2]; simp [h.nl], fun i => ?_, fun v hv => ?_, ⟨fun v => T.sum.getD v 0, ?_⟩, fun i => ?_, ?_⟩
          · by_cases hi : ∃ k ∈ ks, k / 2 = i
            · obtain ⟨k, hk, rfl⟩ := hi
              rw [g4 k hk]
              have h1 := h.fp (k / 2)
              rcases Nat.mod_two_eq_zero_or_one k with h0 | h0
              · have hd0 : a * (1 - 2 * ((k % 2 : Nat) : Int)) = a := by rw [h0]; simp
                rw [hd0]; omega
              · have := hle.2 k hk h0
                have hd0 : a * (1 - 2 * ((k % 2 : Nat) : Int)) = -a := by rw [h0]; simp
                rw [hd0]; omega
            · rw [g3 i fun k hk he => hi ⟨k, hk, he⟩]; exact h.fp i
          · have hc := h.cons v hv
            rw [hn2, g5, hkSum, ← hc]
            by_cases h1 : v = to
            · rw [if_pos h1, ind_true h1.symm, ind_false (by rw [h1]; exact fun h => hne h.symm), h1, Int.sub_zero, Int.mul_one]
              omega
            · rw [if_neg h1, ind_false (fun h => h1 h.symm)]
              by_cases h2 : v = src
              · rw [if_pos h2, ind_true h2.symm, h2, Int.zero_sub, Int.mul_neg, Int.mul_one]
                omega
              · rw [if_neg h2, ind_false (fun h => h2 h.symm)]
                simp
          · have hp := hT.pot hE
            intro e he
            obtain ⟨j, l, hj, h1 | ⟨hrv, h1⟩⟩ := edgs_mem.1 he
            · exact hp e (edgs_mem.2 ⟨j, l, hj, .inl h1⟩)
            · rw [Nat.zero_add] at hrv
              have hrv : 0 < flow'.getD j 0 := by simpa [flowRev] using hrv
              by_cases hold : 0 < flow.getD j 0
              · exact hp e (edgs_mem.2 ⟨j, l, hj, .inr ⟨by rw [Nat.zero_add]; simpa [flowRev] using hold, h1⟩⟩)
              · have h0 := h.fp j
                have hin : ∃ k ∈ ks, k / 2 = j := by
                  by_cases hi : ∃ k ∈ ks, k / 2 = j
                  · exact hi
                  · have := g3 j fun k hk he => hi ⟨k, hk, he⟩
                    omega
                obtain ⟨k, hk, hkj⟩ := hin
                obtain ⟨_, _, _, hke, hkk, htight⟩ := hnd.1 k hk
                obtain ⟨_, _, l', hl', hcase⟩ := key_befF hke hkk
                rw [hkj, hj] at hl'
                have hl' := Option.some.inj hl'
                subst hl'
                rcases hcase with ⟨d1, d2, d3, d4⟩ | ⟨d1, d2, _⟩
                · rw [d2, d3, d4] at htight
                  subst h1
                  show T.sum.getD (plc n l.f) 0 ≤ T.sum.getD (plc n l.t) 0 + -l.m
                  omega
                · have := hodd k hk d1
                  rw [hkj] at this; omega
          · have hpn : sumR (n + 1) (fun v => max (need2.getD v 0) 0) = sumR (n + 1) (fun v => max (need.getD v 0) 0) - a := by
              have e1 : sumR (n + 1) (fun v => max (need2.getD v 0) 0) = sumR (n + 1) (fun v => if v = to then max (need.getD to 0) 0 - a else max (need.getD v 0) 0) := by
                refine sumR_congr fun v _ => ?_
                show max (need2.getD v 0) 0 = if v = to then max (need.getD to 0) 0 - a else max (need.getD v 0) 0
                rw [hn2]
                by_cases h1 : v = to
                · rw [if_pos h1, if_pos h1]; omega
                · rw [if_neg h1, if_neg h1]
                  by_cases h2 : v = src
                  · rw [if_pos h2, h2]; omega
                  · rw [if_neg h2]
              rw [e1, sumR_set (f := fun v => max (need.getD v 0) 0) hto]
              show sumR (n + 1) (fun v => max (need.getD v 0) 0) - max (need.getD to 0) 0 + (max (need.getD to 0) 0 - a) = _
              omega
            have hbi := h.bd i
            rw [hpn]
            by_cases hi : ∃ k ∈ ks, k / 2 = i
            · obtain ⟨k, hk, rfl⟩ := hi
              rw [g4 k hk]
              have hd : a * (1 - 2 * ((k % 2 : Nat) : Int)) ≤ a := by
                rcases Nat.mod_two_eq_zero_or_one k with h0 | h0
                · rw [h0]; simp
                · rw [h0]; simp; omega
              omega
            · rw [g3 i fun k hk he => hi ⟨k, hk, he⟩]; omega
          · have e1 : sumR (n + 1) (fun v => need2.getD v 0) = sumR (n + 1) (fun v => if v = to then need.getD to 0 - a else (fun v => if v = src then need.getD src 0 + a else need.getD v 0) v) := sumR_congr fun v _ => hn2 v
            rw [e1, sumR_set (f := fun v => if v = src then need.getD src 0 + a else need.getD v 0) hto, sumR_set (f := fun v => need.getD v 0) (show src < n + 1 by omega), h.sm]
            show 0 - need.getD src 0 + (need.getD src 0 + a) - (if to = src then need.getD src 0 + a else need.getD to 0) + (need.getD to 0 - a) = 0
            rw [if_neg hne]; omega
        have hms : need2.getD src 0 = need.getD src 0 + a := by rw [hn2, if_neg (fun h => hne h.symm), if_pos rfl]
        obtain ⟨need', fl', i1, i2, i3, i4⟩ := Flo.inner hok hub hS hs f need2 flow' hF2 (by rw [hms]; omega)
        refine ⟨need', fl', by rw [hstep]; exact i1, i2, i3, fun v hv hnv => i4 v hv ?_⟩
        rw [hn2]
        by_cases h1 : v = to
        · rw [if_pos h1]; omega
        · rw [if_neg h1]
          by_cases h2 : v = src
          · subst h2; omega
          · rw [if_neg h2]; exact hnv
    · refine ⟨need, flow, ?_, h, by omega, fun v _ hv => hv⟩
      rw [innerF, if_neg hneg]

theorem Flo.outer {n : Nat} {arcs : List Lnk} {need0 : List Int} {S : Int} (hok : ∀ l ∈ arcs, ArcOK n l) (hub : Hub n arcs) (hS : S ≤ 1152921504606846976) {fuel : Nat} (hfu : S.toNat < fuel) : ∀ (m i : Nat) (need flow : List Int), Flo n arcs need0 S need flow → i + m = n + 1 → (∀ v, v < i → 0 ≤ need.getD v 0) →
    ∃ need' flow', outerF n arcs fuel m i need flow = some flow' ∧ Flo n arcs need0 S need' flow' ∧ ∀ v, v ≤ n → need'.getD v 0 = 0
  | 0, i, need, flow, h, hi, hp => by
    refine ⟨need, flow, rfl, h, fun v hv => ?_⟩
    exact sumR_zero_all (f := fun v => need.getD v 0) (k := n + 1) (fun v hv => hp v (by omega)) h.sm v (by omega)
  | m + 1, i, need, flow, h, hi, hp => by
    have hns := h.need (show i ≤ n by omega)
    obtain ⟨need', flow', g1, g2, g3, g4⟩ := h.inner hok hub hS (src := i) (by omega) fuel need flow (by omega)
    obtain ⟨need2, flow2, k1, k2, k3⟩ := Flo.outer hok hub hS hfu m (i + 1) need' flow' g2 (by omega) (fun v hv => by
      by_cases hvi : v = i
      · rw [hvi]; exact g3
      · exact g4 v (by omega) (hp v (by omega)))
    refine ⟨need2, flow2, ?_, k2, k3⟩
    rw [outerF, g1]
    exact k1

end Proofs
end Go

/-
  Plain lemmas, part 15: the greatest value of a form is what the program's function answers: a flow, its cost, an allowed point at which the form has this value. Conditions: none; definitions and plain lemmas.
-/
namespace Go
namespace Proofs

theorem sumR_shift (f : Nat → Int) : ∀ k, sumR (k + 1) f = f 0 + sumR k (fun v => f (v + 1))
  | 0 => by simp [sumR]
  | k + 1 => by
    have ih := sumR_shift f k
    rw [sumR, ih, sumR]
    omega

theorem sumR_list : ∀ {l : List Int} {n : Nat}, l.length = n → sumR n (fun v => l.getD v 0) = l.sum
  | [], n, h => by subst h; rfl
  | x :: l, 0, h => by simp at h
  | x :: l, n + 1, h => by
    rw [sumR_shift, List.sum_cons, List.getD_cons_zero]
    have ih := sumR_list (l := l) (n := n) (by simpa using h)
    rw [← ih]
    congr 1

/-- The product of two lists. -/
def dotI : List Int → List Int → Int
  | x :: r, y :: s => x * y + dotI r s
  | _, _ => 0

theorem dotI_sumR : ∀ {x y : List Int} {n : Nat}, x.length = n → dotI x y = sumR n (fun v => x.getD v 0 * y.getD v 0)
  | [], y, n, h => by subst h; rfl
  | a :: x, y, 0, h => by simp at h
  | a :: x, [], n + 1, h => by
    rw [sumR_congr (g := fun _ => 0) fun v _ => by simp, sumR_zero]
    rfl
  | a :: x, b :: y, n + 1, h => by
    rw [sumR_shift, List.getD_cons_zero, List.getD_cons_zero]
    have ih := dotI_sumR (x := x) (y := y) (n := n) (by simpa using h)
    show a * b + dotI x y = _
    rw [ih]
    congr 1

theorem mul_bd {x y C D : Int} (hx : -C ≤ x ∧ x ≤ C) (hy : -D ≤ y ∧ y ≤ D) : -(C * D) ≤ x * y ∧ x * y ≤ C * D := by
  have h1 : (x * y).natAbs = x.natAbs * y.natAbs := Int.natAbs_mul x y
  have h2 : x.natAbs * y.natAbs ≤ C.toNat * D.toNat := Nat.mul_le_mul (by omega) (by omega)
  have h3 : ((C.toNat * D.toNat : Nat) : Int) = C * D := by
    rw [Int.natCast_mul, Int.toNat_of_nonneg (by omega), Int.toNat_of_nonneg (by omega)]
  omega

theorem valF_some {C D : Int} (hC : 0 ≤ C) (hD : 0 ≤ D) : ∀ {x y : List Int} {a : Int}, x.length ≤ y.length → (∀ z ∈ x, -C ≤ z ∧ z ≤ C) → (∀ z ∈ y, -D ≤ z ∧ z ≤ D) → C * D ≤ 4611686018427387904 →
    -4611686018427387904 ≤ a - x.length * (C * D) ∧ a + x.length * (C * D) ≤ 4611686018427387904 → valF x y a = some (a + dotI x y)
  | [], y, a, _, _, _, _, _ => by simp [valF, dotI]
  | u :: x, [], a, h, _, _, _, _ => by simp at h
  | u :: x, w :: y, a, h, hx, hy, hcd, ha => by
    have hm := mul_bd (hx u (List.mem_cons_self ..)) (hy w (List.mem_cons_self ..))
    have h0 : 0 ≤ C * D := Int.mul_nonneg hC hD
    have hl : ((x.length + 1 : Nat) : Int) * (C * D) = x.length * (C * D) + C * D := by rw [Int.natCast_add, Int.add_mul]; simp
    have hl0 : 0 ≤ (x.length : Int) * (C * D) := Int.mul_nonneg (by omega) h0
    rw [List.length_cons, hl] at ha
    have ih := valF_some hC hD (x := x) (y := y) (a := a + u * w) (by simpa using h) (fun z hz => hx z (List.mem_cons_of_mem _ hz)) (fun z hz => hy z (List.mem_cons_of_mem _ hz)) hcd (by omega)
    simp only [valF]
    rw [if_pos (by rw [Bool.and_eq_true, inI_iff, inI_iff]; omega), ih]
    show some (a + u * w + dotI x y) = some (a + (u * w + dotI x y))
    rw [Int.add_assoc]

theorem getD_append_left' {a b : List Int} {v : Nat} (h : v < a.length) : (a ++ b).getD v 0 = a.getD v 0 := by
  rw [List.getD_eq_getElem?_getD, List.getD_eq_getElem?_getD, List.getElem?_append_left h]

theorem needL_lt {by' : List Int} {v : Nat} (h : v < by'.length) : (needL by').getD v 0 = by'.getD v 0 := getD_append_left' h

theorem needL_at {by' : List Int} : (needL by').getD by'.length 0 = -by'.sum := by
  rw [List.getD_eq_getElem?_getD, needL, List.getElem?_append_right (Nat.le_refl _), Nat.sub_self]
  rfl

/-- What the greatest value of a form comes with. -/
structure BestOK (n : Nat) (arcs : List Lnk) (by' flow pt : List Int) (v S : Int) : Prop where
  fl : flow.length = arcs.length
  fp : ∀ i, 0 ≤ flow.getD i 0 ∧ flow.getD i 0 ≤ S
  net : ∀ p, p < n → netV n arcs flow p = by'.getD p 0
  cost : costV arcs flow = v
  pl : pt.length = n
  pot : PotL n (fun v => pt.getD v 0) arcs
  val : dotI by' pt = v

theorem best_gen {n : Nat} {arcs : List Lnk} {by' : List Int} {q0 : Nat → Int} {C : Int} (hok : ∀ l ∈ arcs, ArcOK n l) (hub : Hub n arcs) (hq : PotL n q0 arcs)
    (hbox : ∀ v, v < n → (∃ l ∈ arcs, plc n l.f = n ∧ plc n l.t = v ∧ l.m ≤ 16777216) ∧ (∃ l ∈ arcs, plc n l.f = v ∧ plc n l.t = n ∧ l.m ≤ 16777216))
    (hbl : by'.length = n) (hC : 0 ≤ C ∧ C ≤ 68719476736) (hbb : ∀ x ∈ by', -C ≤ x ∧ x ≤ C) (hS : n * C ≤ 68719476736) (hn : n ≤ 240) :
    ∃ flow pt v, bestF n arcs 68719476737 by' = some (v, usesF arcs flow, pt) ∧ BestOK n arcs by' flow pt v (n * C) := by
  have hnl : (needL by').length = n + 1 := by simp [needL, hbl]
  have hna : (needL by').getD n 0 = -by'.sum := by rw [← hbl]; exact needL_at
  have hlt : ∀ v, v < n → (needL by').getD v 0 = by'.getD v 0 := fun v hv => needL_lt (by omega)
  have hbd : ∀ v, v < n → -C ≤ by'.getD v 0 ∧ by'.getD v 0 ≤ C := fun v hv => hbb _ (getD_mem (by omega))
  have hsum : by'.sum = sumR n (fun v => by'.getD v 0) := (sumR_list hbl).symm
  have hCn : ∀ k : Nat, sumR k (fun _ => C) = k * C := by
    intro k
    induction k with
    | zero => simp [sumR]
    | succ k ih => rw [sumR, ih, Int.natCast_add, Int.add_mul]; simp
  have hpos : sumR (n + 1) (fun v => max ((needL by').getD v 0) 0) ≤ n * C := by
    have e1 : sumR (n + 1) (fun v => max ((needL by').getD v 0) 0) = sumR n (fun v => max (by'.getD v 0) 0) + max (-by'.sum) 0 := by
      rw [sumR, hna]
      congr 1
      exact sumR_congr fun v hv => by show max ((needL by').getD v 0) 0 = max (by'.getD v 0) 0; rw [hlt v hv]
    rw [e1]
    by_cases hs : -by'.sum ≤ 0
    · have := sumR_le (f := fun v => max (by'.getD v 0) 0) (g := fun _ => C) (k := n) fun v hv => by have := hbd v hv; show max (by'.getD v 0) 0 ≤ C; omega
      rw [hCn] at this
      omega
    · have e2 : sumR n (fun v => max (by'.getD v 0) 0) + max (-by'.sum) 0 = sumR n (fun v => max (by'.getD v 0) 0 + (-1) * by'.getD v 0) := by
        rw [sumR_add, sumR_mul, ← hsum]; omega
      rw [e2]
      have := sumR_le (f := fun v => max (by'.getD v 0) 0 + (-1) * by'.getD v 0) (g := fun _ => C) (k := n) fun v hv => by have := hbd v hv; show max (by'.getD v 0) 0 + (-1) * by'.getD v 0 ≤ C; omega
      rw [hCn] at this
      omega
  have hz : ∀ i, (List.replicate arcs.length (0 : Int)).getD i 0 = 0 := fun i => by
    rw [List.getD_eq_getElem?_getD, List.getElem?_replicate]; split <;> rfl
  have hF : Flo n arcs (needL by') (n * C) (needL by') (List.replicate arcs.length 0) := by
    refine ⟨List.length_replicate, hnl, fun i => by rw [hz i]; exact Int.le_refl _, fun v hv => by rw [netV_zero]; omega, ⟨q0, ?_⟩, fun i => by rw [hz i]; omega, ?_⟩
    · intro e he
      obtain ⟨j, l, hj, h1 | ⟨hrv, _⟩⟩ := edgs_mem.1 he
      · exact potL_iff.1 hq e (edgs_mem.2 ⟨j, l, hj, .inl h1⟩)
      · rw [Nat.zero_add] at hrv
        have : 0 < (List.replicate arcs.length (0 : Int)).getD j 0 := by simpa only [flowRev, decide_eq_true_eq] using hrv
        rw [hz] at this; omega
    · rw [sumR, hna, sumR_congr (f := fun v => (needL by').getD v 0) (g := fun v => by'.getD v 0) hlt, ← hsum]; omega
  obtain ⟨need', flow, h1, h2, h3⟩ := Flo.outer hok hub (show (n : Int) * C ≤ 1152921504606846976 by omega) (fuel := 68719476737) (by omega) (n + 1) 0 _ _ hF (by omega) (fun v hv => by omega)
  have hnet : ∀ p, p ≤ n → netV n arcs flow p = (needL by').getD p 0 := fun p hp => by
    have := h2.cons p hp
    rw [h3 p hp] at this; omega
  obtain ⟨q, hqp⟩ := h2.pot
  have hr := rounds_pot (rev := flowRev flow) (k := n + 2) hok hqp (Nat.le_refl n) (by omega)
  obtain ⟨ts, hT⟩ := tree_of (rev := flowRev flow) hok hub (Nat.le_refl n) hr.1
  have hpt := hT.pot (edgs_ok hok)
  obtain ⟨rr, hBF⟩ := hT.bf
  have hs0 := hT.src0.1
  have htl : (shortF n (flowRev flow) arcs n).1.sum.length = n + 1 := hBF.ls
  have hsh : (roundsF n (flowRev flow) arcs (n + 2) (startF n n)).1 = (shortF n (flowRev flow) arcs n).1 := rfl
  rw [hsh] at hpt hs0
  generalize hTT : (shortF n (flowRev flow) arcs n).1 = T at *
  have hptl : (T.sum.take n).length = n := by simp; omega
  have hpte : ∀ v, v ≤ n → (T.sum.take n).getD v 0 = T.sum.getD v 0 := fun v hv => by
    by_cases hvn : v = n
    · rw [hvn, hs0, List.getD_eq_getElem?_getD, List.getElem?_eq_none (by omega)]; rfl
    · rw [List.getD_eq_getElem?_getD, List.getD_eq_getElem?_getD, List.getElem?_take_of_lt (by omega)]
  have hpL : PotL n (fun v => T.sum.getD v 0) arcs := by
    intro l hl
    obtain ⟨j, hj⟩ := List.mem_iff_getElem?.1 hl
    exact hpt _ (edgs_mem.2 ⟨j, l, hj, .inl rfl⟩)
  have hptb : ∀ x ∈ T.sum.take n, -16777216 ≤ x ∧ x ≤ 16777216 := by
    intro x hx
    obtain ⟨v, hv, rfl⟩ := List.mem_iff_getElem.1 hx
    have hvn : v < n := by omega
    have e : (T.sum.take n)[v] = T.sum.getD v 0 := by
      rw [← hpte v (by omega), List.getD_eq_getElem?_getD, List.getElem?_eq_getElem hv]; rfl
    rw [e]
    obtain ⟨⟨l, hl, l1, l2, l3⟩, ⟨m, hm, m1, m2, m3⟩⟩ := hbox v hvn
    have p1 := hpL l hl
    have p2 := hpL m hm
    rw [l1, l2] at p1
    rw [m1, m2] at p2
    have p1 : T.sum.getD v 0 ≤ T.sum.getD n 0 + l.m := p1
    have p2 : T.sum.getD n 0 ≤ T.sum.getD v 0 + m.m := p2
    omega
  have hval := valF_some (C := C) (D := 16777216) hC.1 (by omega) (x := by') (y := T.sum.take n) (a := 0) (by omega) hbb hptb
  have hn0 : 0 ≤ (n : Int) * C := Int.mul_nonneg (by omega) hC.1
  have hb2 : (by'.length : Int) * (C * 16777216) = n * C * 16777216 := by rw [hbl, Int.mul_assoc]
  rw [hb2] at hval
  have hval := hval (by omega) (by omega)
  have hdot := netV_dot n (fun v => T.sum.getD v 0) hok h2.fl.symm (fun i l hi hf => by
    have a1 := hpL l (List.mem_of_getElem? hi)
    have a2 := hpt _ (edgs_mem.2 ⟨i, l, hi, .inr ⟨by rw [Nat.zero_add]; simpa [flowRev] using hf, rfl⟩⟩)
    have a2 : T.sum.getD (plc n l.f) 0 ≤ T.sum.getD (plc n l.t) 0 + -l.m := a2
    have a1 : T.sum.getD (plc n l.t) 0 ≤ T.sum.getD (plc n l.f) 0 + l.m := a1
    show T.sum.getD (plc n l.t) 0 - T.sum.getD (plc n l.f) 0 = l.m
    omega) h2.fp
  have hcost : costV arcs flow = dotI by' (T.sum.take n) := by
    rw [← hdot, dotI_sumR hbl, sumR]
    show _ + netV n arcs flow n * T.sum.getD n 0 = _
    rw [hs0, Int.mul_zero, Int.add_zero]
    refine sumR_congr fun v hv => ?_
    show netV n arcs flow v * T.sum.getD v 0 = by'.getD v 0 * (T.sum.take n).getD v 0
    rw [hnet v (by omega), hlt v hv, hpte v (by omega)]
  refine ⟨flow, T.sum.take n, dotI by' (T.sum.take n), ?_, h2.fl, fun i => ⟨h2.fp i, ?_⟩, fun p hp => by rw [hnet p (by omega), hlt p hp], hcost, hptl, ?_, rfl⟩
  · unfold bestF
    rw [h1]
    dsimp only
    rw [hTT, hval, Int.zero_add]
  · have := h2.bd i
    have := sumR_nonneg (f := fun v => max (need'.getD v 0) 0) (k := n + 1) (fun w _ => by show 0 ≤ max (need'.getD w 0) 0; omega)
    omega
  · intro l hl
    obtain ⟨o1, o2, _⟩ := hok l hl
    show (T.sum.take n).getD (plc n l.t) 0 ≤ (T.sum.take n).getD (plc n l.f) 0 + l.m
    rw [hpte _ (plc_le o2.2), hpte _ (plc_le o1.2)]
    exact hpL l hl

/-- No allowed point gives a form a greater value. -/
theorem BestOK.most {n : Nat} {arcs : List Lnk} {by' flow pt p : List Int} {v S : Int} (h : BestOK n arcs by' flow pt v S) (hok : ∀ l ∈ arcs, ArcOK n l) (hbl : by'.length = n) (hpl : p.length = n)
    (hp : PotL n (fun v => p.getD v 0) arcs) : dotI by' p ≤ v := by
  have h1 := netV_le n (fun v => p.getD v 0) hok h.fl.symm hp (fun i => (h.fp i).1)
  rw [h.cost, sumR] at h1
  have h2 : p.getD n 0 = 0 := by rw [List.getD_eq_getElem?_getD, List.getElem?_eq_none (by omega)]; rfl
  have h1 : sumR n (fun v => netV n arcs flow v * p.getD v 0) + netV n arcs flow n * p.getD n 0 ≤ v := h1
  rw [h2, Int.mul_zero, Int.add_zero] at h1
  rw [dotI_sumR hbl]
  rw [sumR_congr (f := fun v => by'.getD v 0 * p.getD v 0) (g := fun v => netV n arcs flow v * p.getD v 0) fun v hv => by show by'.getD v 0 * p.getD v 0 = netV n arcs flow v * p.getD v 0; rw [h.net v hv]]
  exact h1

end Proofs
end Go

namespace Go.Proofs
open Go.Sx

theorem Least_t (bs : List (Int × Int)) (ls : List Lnk) (form : List (Int × Int)) (fuel : Nat) (v : Int) (us : List (Lnk × Int)) (pt by' : List Int) (hs : SysOK bs ls)
    (hfl : form.length ≤ 1000) (hF : formF form bs.length = 0) (hfb : FormB bs.length (-1) form) (hby : by' = coefF (-1) form (List.replicate bs.length 0))
    (hbl : by'.length = bs.length) (hbb : ∀ x ∈ by', -4503599627370496 ≤ x ∧ x ≤ 4503599627370496) (hB : bestF bs.length (graphF bs ls 0) fuel by' = some (v, us, pt)) (hv : -4611686018427387904 ≤ v ∧ v ≤ 4611686018427387904) :
    Triple Try.prog 29 [.c (.p 0 0 0 0), .c (.s 3 0 form.length 2)] ((3, false, .arr (aSpan form)) :: netH bs ls) 4
      (.tup [.inr [.v (.int .i64 (-v)), .s 4 0 us.length 5, .s 5 0 pt.length 1], .inl (.v (.int .i64 0))]) [(4, true, .arr (aUse us)), (5, true, .arr (aInt pt))] := by
  refine triple_of tB_ok Try.func29 rfl Try.call29 rfl ?_
  intro ρ w hH
  conv => whnf
  have hnb := hs.nb
  refine call_step (formed_t form bs.length (by omega) (by omega)) rfl rfl ?_
  conv => whnf
  refine ⟨(by repeat' (first | exact trivial | exact rfl | refine And.intro ?_ ?_ | ((conv => whnf); first | exact trivial | exact rfl | refine And.intro ?_ ?_ | omega))), (by repeat' (first | exact trivial | exact rfl | refine And.intro ?_ ?_ | ((conv => whnf); first | exact trivial | exact rfl | refine And.intro ?_ ?_ | omega))), ?_⟩
  conv => whnf
  rw [hF]
  refine ⟨fun hc => ?_, fun hc => ?_⟩
  · cases hc
  have hco := coef_nil_t bs.length form (-1) 0 (by omega) hfl hfb
  rw [← hby] at hco
  conv => whnf
  refine call_step hco rfl rfl ?_
  conv => whnf
  refine ⟨(by repeat' (first | exact trivial | exact rfl | refine And.intro ?_ ?_ | ((conv => whnf); first | exact trivial | exact rfl | refine And.intro ?_ ?_ | omega))), (by repeat' (first | exact trivial | exact rfl | refine And.intro ?_ ?_ | ((conv => whnf); first | exact trivial | exact rfl | refine And.intro ?_ ?_ | omega))), ?_⟩
  conv => whnf
  refine call_step (best_t bs ls by' fuel v us pt hs hbl hbb hB) rfl rfl ?_
  conv => whnf
  refine ⟨(by repeat' (first | exact trivial | exact rfl | refine And.intro ?_ ?_ | ((conv => whnf); first | exact trivial | exact rfl | refine And.intro ?_ ?_ | omega))), (by repeat' (first | exact trivial | exact rfl | refine And.intro ?_ ?_ | ((conv => whnf); first | exact trivial | exact rfl | refine And.intro ?_ ?_ | omega))), ?_⟩
  conv => whnf
  refine ⟨-v, (congrArg IntKind.i64.wrap (show (0 : Int) - v = -v by omega)).trans (wrapId ⟨by omega, by omega⟩), ?_⟩
  conv => whnf
  repeat' (first | exact trivial | exact rfl | refine And.intro ?_ ?_ | ((conv => whnf); first | exact trivial | exact rfl | refine And.intro ?_ ?_ | omega))

end Go.Proofs

