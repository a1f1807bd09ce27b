/-
  A part of the proof that a law of dryweightlaw03 answers true: lemmas of a symbolic walk, plain functions, or contracts of the functions walked (X5, X9, Xa, Pm12). Conditions: none.
-/
import Derived.Test.YtjjfadfmdodmnaaPart19
import Derived.Test.YtjjfadfmdodmnaaPart18
set_option maxRecDepth 100000
set_option linter.unusedVariables false
set_option linter.unusedSimpArgs false
namespace Go.Proofs
open Go.Sx

theorem graphF_without {bs : List (Int × Int)} {ls : List Lnk} {id : Int} (h : id ≠ 0) : allF bs (withoutF ls id) = graphF bs ls id := by
  unfold allF graphF withoutF allF
  rw [List.filter_append]
  congr 1
  · symm
    refine List.filter_eq_self.2 fun l hl => ?_
    have hi : l.i = 0 := by
      obtain ⟨i, b, _, h1 | h1⟩ := boxLinks_mem hl <;> rw [h1]
    unfold keeps
    rw [hi]
    have : (0 : Int) ≠ id := fun h2 => h h2.symm
    simp [this]
  · refine List.filter_congr fun l _ => ?_
    unfold keeps
    have : (id == 0) = false := by simpa using h
    rw [this, Bool.false_or]

theorem calm_pot {bs : List (Int × Int)} {ls : List Lnk} (hs : SysOK bs ls) (h : Calm bs ls 0) : ∃ q : Nat → Int, ∀ k, PotL bs.length q (graphF bs ls k) := by
  have hp := (rounds_hub (rev := noR) (k := bs.length + 2) (graphF_ok hs 0) (hub_graph bs ls 0) (Nat.le_refl _) h).2
  have hL := potL_iff.2 hp
  refine ⟨fun v => (shortF bs.length noR (graphF bs ls 0) bs.length).1.sum.getD v 0, fun k l hl => hL l ?_⟩
  rw [graphF_zero]
  exact (List.mem_filter.1 hl).1

theorem great_net {bs : List (Int × Int)} {ls : List Lnk} {a b : Int} (h : NetOK bs ls) (k : Int) (ha : -1 ≤ a ∧ a < bs.length) (hb : -1 ≤ b ∧ b < bs.length) :
    greatF bs.length (graphF bs ls k) a b = mostF bs.length (graphF bs ls k) a b := by
  obtain ⟨q, hq⟩ := calm_pot h.sys h.calm
  have hf := h.few
  have hl : (graphF bs ls k).length ≤ 200 := by
    have := allF_len bs ls
    refine Nat.le_trans (List.length_filter_le _ _) ?_
    omega
  exact great_most hf.1 hl (graphF_ok h.sys k) (hub_graph bs ls k) (hq k) ha hb

theorem needs_net {bs : List (Int × Int)} {ls : List Lnk} {a b : Int} (h : NetOK bs ls) (ha : -1 ≤ a ∧ a < bs.length) (hb : -1 ≤ b ∧ b < bs.length) :
    (idsF ls).filter (fun id => !decide (mostF bs.length (graphF bs ls id) a b ≤ mostF bs.length (graphF bs ls 0) a b)) = refNeedsF bs ls a b := by
  have hids : idsF ls = refIds ls := ids_eq fun l hl => by
    have := (properF_iff.1 (h.sys.lnk l hl)).2.2.2.2; omega
  rw [hids]
  unfold refNeedsF
  refine List.filter_congr fun id hid => ?_
  have hne : id ≠ 0 := by
    have := (refIds_inc (ls := ls) (o := []) List.Pairwise.nil).2 id
    have hid : id ∈ ls.foldl (fun o l => insI o l.i) [] := hid
    rw [this] at hid
    rcases hid with hid | hid
    · cases hid
    · exact hid.1
  rw [graphF_without hne, great_net h id ha hb, ← graphF_zero bs ls, great_net h 0 ha hb, ← decide_not]
  exact decide_eq_decide.2 (by omega)

theorem needsE_t (bs : List (Int × Int)) (ls : List Lnk) (a b : Int) (hs : SysOK bs ls) (hp : withinF a (-1) (bs.length - 1) = false ∨ withinF b (-1) (bs.length - 1) = false) :
    Triple Try.prog 23 [.c (.p 0 0 0 0), iv .i64 a, iv .i64 b] (netH bs ls) 3 (.tup [.inl (.s 3 0 0 1), .inl (.v (.int .i64 1))]) [(3, true, .arr (aInt []))] := by
  refine triple_of tB_ok Try.func23 rfl Try.call23 rfl ?_
  intro ρ w hH
  conv => whnf
  have hnb := hs.nb
  refine call_step (isPlace_t bs ls a (by omega)) rfl rfl ?_
  conv => whnf
  refine ⟨(by repeat' (first | exact trivial | exact rfl | refine And.intro ?_ ?_ | ((conv => whnf); first | exact trivial | exact rfl | refine And.intro ?_ ?_ | omega))), (by repeat' (first | exact trivial | exact rfl | refine And.intro ?_ ?_ | ((conv => whnf); first | exact trivial | exact rfl | refine And.intro ?_ ?_ | omega))), ?_⟩
  conv => whnf
  refine ⟨fun hc => ?_, fun hc => ?_⟩
  · conv => whnf
    repeat' (first | exact trivial | exact rfl | refine And.intro ?_ ?_ | ((conv => whnf); first | exact trivial | exact rfl | refine And.intro ?_ ?_ | omega))
  conv => whnf
  refine call_step (isPlace_t bs ls b (by omega)) rfl rfl ?_
  conv => whnf
  refine ⟨(by repeat' (first | exact trivial | exact rfl | refine And.intro ?_ ?_ | ((conv => whnf); first | exact trivial | exact rfl | refine And.intro ?_ ?_ | omega))), (by repeat' (first | exact trivial | exact rfl | refine And.intro ?_ ?_ | ((conv => whnf); first | exact trivial | exact rfl | refine And.intro ?_ ?_ | omega))), ?_⟩
  conv => whnf
  refine ⟨fun hc => ?_, fun hc => ?_⟩
  · conv => whnf
    repeat' (first | exact trivial | exact rfl | refine And.intro ?_ ?_ | ((conv => whnf); first | exact trivial | exact rfl | refine And.intro ?_ ?_ | omega))
  · simp at *
    simp_all

theorem refNeedsE_t (bs : List (Int × Int)) (ls : List Lnk) (a b : Int) (hp : placeF bs.length a = false ∨ placeF bs.length b = false) :
    Triple Try.prog 24 [sysA bs.length ls.length, iv .i64 a, iv .i64 b] (sysH bs ls) 2 (.tup [.inl (.s 2 0 0 1), .inl (.v (.int .i64 1))]) [(2, true, .arr (aInt []))] := by
  refine triple_of tB_ok Try.func24 rfl Try.call24 rfl ?_
  intro ρ w hH
  conv => whnf
  refine call_step (refPlace_t bs ls a) rfl rfl ?_
  conv => whnf
  refine ⟨(by repeat' (first | exact trivial | exact rfl | refine And.intro ?_ ?_ | ((conv => whnf); first | exact trivial | exact rfl | refine And.intro ?_ ?_ | omega))), (by repeat' (first | exact trivial | exact rfl | refine And.intro ?_ ?_ | ((conv => whnf); first | exact trivial | exact rfl | refine And.intro ?_ ?_ | omega))), ?_⟩
  conv => whnf
  refine ⟨fun hc => ?_, fun hc => ?_⟩
  · conv => whnf
    repeat' (first | exact trivial | exact rfl | refine And.intro ?_ ?_ | ((conv => whnf); first | exact trivial | exact rfl | refine And.intro ?_ ?_ | omega))
  conv => whnf
  refine call_step (refPlace_t bs ls b) rfl rfl ?_
  conv => whnf
  refine ⟨(by repeat' (first | exact trivial | exact rfl | refine And.intro ?_ ?_ | ((conv => whnf); first | exact trivial | exact rfl | refine And.intro ?_ ?_ | omega))), (by repeat' (first | exact trivial | exact rfl | refine And.intro ?_ ?_ | ((conv => whnf); first | exact trivial | exact rfl | refine And.intro ?_ ?_ | omega))), ?_⟩
  conv => whnf
  refine ⟨fun hc => ?_, fun hc => ?_⟩
  · conv => whnf
    repeat' (first | exact trivial | exact rfl | refine And.intro ?_ ?_ | ((conv => whnf); first | exact trivial | exact rfl | refine And.intro ?_ ?_ | omega))
  · simp at *
    simp_all

theorem both_places (n : Nat) (a b : Int) : ((-1 ≤ a ∧ a < n) ∧ (-1 ≤ b ∧ b < n) ∧ withinF a (-1) (n - 1) = true ∧ withinF b (-1) (n - 1) = true) ∨
    ((withinF a (-1) (n - 1) = false ∨ withinF b (-1) (n - 1) = false) ∧ (placeF n a = false ∨ placeF n b = false)) := by
  cases h1 : withinF a (-1) (n - 1) with
  | false => exact .inr ⟨.inl rfl, .inl (by rw [place_within]; exact h1)⟩
  | true =>
    cases h2 : withinF b (-1) (n - 1) with
    | false => exact .inr ⟨.inr rfl, .inr (by rw [place_within]; exact h2)⟩
    | true =>
      simp [withinF] at h1 h2
      exact .inl ⟨by omega, by omega, rfl, rfl⟩

theorem range_both {bs : List (Int × Int)} {ls : List Lnk} (h : NetOK bs ls) (a b : Int) : ∃ lo hi e : Int,
    Triple Try.prog 21 [.c (.p 0 0 0 0), iv .i64 a, iv .i64 b] (netH bs ls) 3 (.tup [.inr [.v (.int .i64 lo), .v (.int .i64 hi)], .inl (.v (.int .i64 e))]) [] ∧
    Triple Try.prog 22 [sysA bs.length ls.length, iv .i64 a, iv .i64 b] (sysH bs ls) 2 (.tup [.inr [.v (.int .i64 lo), .v (.int .i64 hi)], .inl (.v (.int .i64 e))]) [] := by
  rcases both_places bs.length a b with ⟨ha, hb, h1, h2⟩ | ⟨h1, h2⟩
  · refine ⟨_, _, 0, range_t bs ls a b h.sys ha.2 hb.2 h1 h2 _ _ rfl rfl, refRange_t bs ls a b h.sys ha hb _ _ ?_ ?_⟩
    · rw [← great_net h 0 hb ha, graphF_zero]
    · rw [← great_net h 0 ha hb, graphF_zero]
  · exact ⟨0, 0, 1, rangeErr_t bs ls a b h.sys h1, refRangeErr_t bs ls a b h2⟩

theorem needs_both {bs : List (Int × Int)} {ls : List Lnk} (h : NetOK bs ls) (a b : Int) : ∃ (xs : List Int) (e : Int), xs.length ≤ 1000000 ∧
    Triple Try.prog 23 [.c (.p 0 0 0 0), iv .i64 a, iv .i64 b] (netH bs ls) 3 (.tup [.inl (.s 3 0 xs.length 1), .inl (.v (.int .i64 e))]) [(3, true, .arr (aInt xs))] ∧
    Triple Try.prog 24 [sysA bs.length ls.length, iv .i64 a, iv .i64 b] (sysH bs ls) 2 (.tup [.inl (.s 2 0 xs.length 1), .inl (.v (.int .i64 e))]) [(2, true, .arr (aInt xs))] := by
  rcases both_places bs.length a b with ⟨ha, hb, h1, h2⟩ | ⟨h1, h2⟩
  · have hT := needs_t bs ls a b h.sys ha.2 hb.2 h1 h2
    rw [needs_net h ha hb] at hT
    refine ⟨_, 0, ?_, hT, refNeeds_t bs ls a b h.sys ha hb⟩
    have h3 := refIds_len ls []
    have h4 := h.few
    have h5 : (refNeedsF bs ls a b).length ≤ (refIds ls).length := List.length_filter_le _ _
    have h6 : (refIds ls).length ≤ ls.length := by simpa [refIds] using h3
    omega
  · exact ⟨[], 1, by simp, needsE_t bs ls a b h.sys h1, refNeedsE_t bs ls a b h2⟩

theorem implied_both {bs : List (Int × Int)} {ls : List Lnk} (h : NetOK bs ls) (l : Lnk) : ∃ (x : Bool) (e : Int),
    Triple Try.prog 25 [.c (.p 0 0 0 0), svL l] (netH bs ls) 3 (.tup [.inl (.v (.bool x)), .inl (.v (.int .i64 e))]) [] ∧
    Triple Try.prog 26 [sysA bs.length ls.length, svL l] (sysH bs ls) 2 (.tup [.inl (.v (.bool x)), .inl (.v (.int .i64 e))]) [] := by
  cases hp : properF l bs.length with
  | false => exact ⟨false, 1, impliedErr_t bs ls l h.sys hp, refImpliedErr_t bs ls l hp⟩
  | true =>
    have hp2 := properF_iff.1 hp
    have hT := refImplied_t bs ls l h.sys hp
    rw [← graphF_zero bs ls, great_net h 0 ⟨by omega, by omega⟩ ⟨by omega, by omega⟩] at hT
    exact ⟨_, 0, implied_t bs ls l h.sys hp, hT⟩

theorem systemRanges_t (bs : List (Int × Int)) (ls : List Lnk) (a b : Int) (l : Lnk) : Triple Try.prog 3 [sysA bs.length ls.length, iv .i64 a, iv .i64 b, svL l] (sysH bs ls) 2 (bv true) [] := by
  by_cases h : NetOK bs ls
  · obtain ⟨lo, hi, e1, r1, r2⟩ := range_both h a b
    obtain ⟨xs, e2, hx, n1, n2⟩ := needs_both h a b
    obtain ⟨x, e3, i1, i2⟩ := implied_both h l
    refine triple_of tB_ok Try.func3 rfl Try.call3 rfl ?_
    intro ρ w hH
    conv => whnf
    refine call_step head_t rfl rfl ?_
    conv => whnf
    refine ⟨(by repeat' (first | exact trivial | exact rfl | refine And.intro ?_ ?_ | ((conv => whnf); first | exact trivial | exact rfl | refine And.intro ?_ ?_ | omega))), (by repeat' (first | exact trivial | exact rfl | refine And.intro ?_ ?_ | ((conv => whnf); first | exact trivial | exact rfl | refine And.intro ?_ ?_ | omega))), ?_⟩
    conv => whnf
    refine call_step (netYes_t bs ls h) rfl rfl ?_
    conv => whnf
    refine ⟨(by repeat' (first | exact trivial | exact rfl | refine And.intro ?_ ?_ | ((conv => whnf); first | exact trivial | exact rfl | refine And.intro ?_ ?_ | omega))), (by repeat' (first | exact trivial | exact rfl | refine And.intro ?_ ?_ | ((conv => whnf); first | exact trivial | exact rfl | refine And.intro ?_ ?_ | omega))), ?_⟩
    conv => whnf
    refine call_step r1 rfl rfl ?_
    conv => whnf
    refine ⟨(by repeat' (first | exact trivial | exact rfl | refine And.intro ?_ ?_ | ((conv => whnf); first | exact trivial | exact rfl | refine And.intro ?_ ?_ | omega))), (by repeat' (first | exact trivial | exact rfl | refine And.intro ?_ ?_ | ((conv => whnf); first | exact trivial | exact rfl | refine And.intro ?_ ?_ | omega))), ?_⟩
    conv => whnf
    refine call_step r2 rfl rfl ?_
    conv => whnf
    refine ⟨(by repeat' (first | exact trivial | exact rfl | refine And.intro ?_ ?_ | ((conv => whnf); first | exact trivial | exact rfl | refine And.intro ?_ ?_ | omega))), (by repeat' (first | exact trivial | exact rfl | refine And.intro ?_ ?_ | ((conv => whnf); first | exact trivial | exact rfl | refine And.intro ?_ ?_ | omega))), ?_⟩
    conv => whnf
    refine call_step n1 rfl rfl ?_
    conv => whnf
    refine ⟨(by repeat' (first | exact trivial | exact rfl | refine And.intro ?_ ?_ | ((conv => whnf); first | exact trivial | exact rfl | refine And.intro ?_ ?_ | omega))), (by repeat' (first | exact trivial | exact rfl | refine And.intro ?_ ?_ | ((conv => whnf); first | exact trivial | exact rfl | refine And.intro ?_ ?_ | omega))), ?_⟩
    conv => whnf
    refine call_step n2 rfl rfl ?_
    conv => whnf
    refine ⟨(by repeat' (first | exact trivial | exact rfl | refine And.intro ?_ ?_ | ((conv => whnf); first | exact trivial | exact rfl | refine And.intro ?_ ?_ | omega))), (by repeat' (first | exact trivial | exact rfl | refine And.intro ?_ ?_ | ((conv => whnf); first | exact trivial | exact rfl | refine And.intro ?_ ?_ | omega))), ?_⟩
    conv => whnf
    refine call_step i1 rfl rfl ?_
    conv => whnf
    refine ⟨(by repeat' (first | exact trivial | exact rfl | refine And.intro ?_ ?_ | ((conv => whnf); first | exact trivial | exact rfl | refine And.intro ?_ ?_ | omega))), (by repeat' (first | exact trivial | exact rfl | refine And.intro ?_ ?_ | ((conv => whnf); first | exact trivial | exact rfl | refine And.intro ?_ ?_ | omega))), ?_⟩
    conv => whnf
    refine call_step i2 rfl rfl ?_
    conv => whnf
    refine ⟨(by repeat' (first | exact trivial | exact rfl | refine And.intro ?_ ?_ | ((conv => whnf); first | exact trivial | exact rfl | refine And.intro ?_ ?_ | omega))), (by repeat' (first | exact trivial | exact rfl | refine And.intro ?_ ?_ | ((conv => whnf); first | exact trivial | exact rfl | refine And.intro ?_ ?_ | omega))), ?_⟩
    conv => whnf
    refine call_step (ints_t xs xs hx) rfl rfl ?_
    conv => whnf
    refine ⟨(by repeat' (first | exact trivial | exact rfl | refine And.intro ?_ ?_ | ((conv => whnf); first | exact trivial | exact rfl | refine And.intro ?_ ?_ | omega))), (by repeat' (first | exact trivial | exact rfl | refine And.intro ?_ ?_ | ((conv => whnf); first | exact trivial | exact rfl | refine And.intro ?_ ?_ | omega))), ?_⟩
    conv => whnf
    refine ⟨fun hc => ?_, fun hc => absurd hc (by simp)⟩
    conv => whnf
    refine ⟨fun hc => ?_, fun hc => absurd hc (by simp)⟩
    conv => whnf
    refine ⟨fun hc => ?_, fun hc => absurd hc (by simp)⟩
    conv => whnf
    refine ⟨fun hc => ?_, fun hc => absurd hc (by simp)⟩
    conv => whnf
    refine ⟨fun hc => ?_, fun hc => absurd hc (by simp)⟩
    conv => whnf
    refine ⟨fun hc => ?_, fun hc => absurd hc (by simp)⟩
    conv => whnf
    repeat' (first | exact trivial | exact rfl | refine And.intro ?_ ?_ | ((conv => whnf); first | exact trivial | exact rfl | refine And.intro ?_ ?_ | omega))
    show (e3 == e3) = true
    simp
  · skip
    refine triple_of tB_ok Try.func3 rfl Try.call3 rfl ?_
    intro ρ w hH
    conv => whnf
    refine call_step head_t rfl rfl ?_
    conv => whnf
    refine ⟨(by repeat' (first | exact trivial | exact rfl | refine And.intro ?_ ?_ | ((conv => whnf); first | exact trivial | exact rfl | refine And.intro ?_ ?_ | omega))), (by repeat' (first | exact trivial | exact rfl | refine And.intro ?_ ?_ | ((conv => whnf); first | exact trivial | exact rfl | refine And.intro ?_ ?_ | omega))), ?_⟩
    conv => whnf
    refine call_step (netNo_t bs ls h) rfl rfl ?_
    conv => whnf
    refine ⟨(by repeat' (first | exact trivial | exact rfl | refine And.intro ?_ ?_ | ((conv => whnf); first | exact trivial | exact rfl | refine And.intro ?_ ?_ | omega))), (by repeat' (first | exact trivial | exact rfl | refine And.intro ?_ ?_ | ((conv => whnf); first | exact trivial | exact rfl | refine And.intro ?_ ?_ | omega))), ?_⟩
    conv => whnf
    repeat' (first | exact trivial | exact rfl | refine And.intro ?_ ?_ | ((conv => whnf); first | exact trivial | exact rfl | refine And.intro ?_ ?_ | omega))

end Go.Proofs

namespace Go.Proofs
open Go.Sx

def witF (T : Tr) (n : Nat) : List Int := (List.range n).map fun v => T.sum.getD v 0 - T.sum.getD n 0
def witN (T : Tr) (n i : Nat) : List Int := (List.range n).map fun v => if v < i then T.sum.getD v 0 - T.sum.getD n 0 else 0

theorem witN_set {T : Tr} {n i : Nat} (h : i < n) : (witN T n i).set i (T.sum.getD i 0 - T.sum.getD n 0) = witN T n (i + 1) := by
  refine List.ext_getElem (by simp [witN]) fun k h1 h2 => ?_
  simp only [witN, List.getElem_set, List.getElem_map, List.getElem_range]
  by_cases hk : i = k
  · subst hk; rw [if_pos rfl, if_pos (by omega)]
  · rw [if_neg hk]
    by_cases hk2 : k < i
    · rw [if_pos hk2, if_pos (by omega)]
    · rw [if_neg hk2, if_neg (by omega)]

theorem shortF_bd (n : Nat) (rev : Nat → Bool) (arcs : List Lnk) (src : Nat) (hn : n ≤ 1000) (hl : arcs.length ≤ 10000) (hok : ∀ l ∈ arcs, ArcOK n l) : ∀ v, -700000000000000 ≤ (shortF n rev arcs src).1.sum.getD v 0 ∧ (shortF n rev arcs src).1.sum.getD v 0 ≤ 700000000000000 := by
  intro v
  have h := shortF_tok n rev arcs src hok
  have hb : ((n + 3 : Nat) : Int) * (67108864 * arcs.length) ≤ 1003 * (67108864 * 10000) := Int.mul_le_mul (by omega) (by omega) (by omega) (by omega)
  by_cases hi : v < (shortF n rev arcs src).1.sum.length
  · have := h.bd _ (getD_mem hi)
    omega
  · rw [List.getD_eq_getElem?_getD, List.getElem?_eq_none (by omega)]
    simp

theorem witness_t (bs : List (Int × Int)) (ls : List Lnk) (a b : Int) (hs : SysOK bs ls) (ha : a < bs.length) (hpa : withinF a (-1) (bs.length - 1) = true) (hpb : withinF b (-1) (bs.length - 1) = true) :
    Triple Try.prog 49 [.c (.p 0 0 0 0), iv .i64 a, iv .i64 b] (netH bs ls) 3 (.tup [.inl (.s 3 0 (witF (shortF bs.length noRev (graphF bs ls 0) (plc bs.length a)).1 bs.length).length 1), .inl (.v (.int .i64 0))])
      [(3, true, .arr (aInt (witF (shortF bs.length noRev (graphF bs ls 0) (plc bs.length a)).1 bs.length)))] := by
  refine triple_of tB_ok Try.func49 rfl Try.call49 rfl ?_
  intro ρ w hH
  conv => whnf
  have hnb := hs.nb
  have hnl := hs.nl
  have hgl := graphF_len hs 0
  refine call_step (isPlace_t bs ls a (by omega)) rfl rfl ?_
  conv => whnf
  refine ⟨(by repeat' (first | exact trivial | exact rfl | refine And.intro ?_ ?_ | ((conv => whnf); first | exact trivial | exact rfl | refine And.intro ?_ ?_ | omega))), (by repeat' (first | exact trivial | exact rfl | refine And.intro ?_ ?_ | ((conv => whnf); first | exact trivial | exact rfl | refine And.intro ?_ ?_ | omega))), ?_⟩
  conv => whnf
  rw [hpa]
  refine ⟨fun hc => ?_, fun hc => ?_⟩
  · cases hc
  conv => whnf
  refine call_step (isPlace_t bs ls b (by omega)) rfl rfl ?_
  conv => whnf
  refine ⟨(by repeat' (first | exact trivial | exact rfl | refine And.intro ?_ ?_ | ((conv => whnf); first | exact trivial | exact rfl | refine And.intro ?_ ?_ | omega))), (by repeat' (first | exact trivial | exact rfl | refine And.intro ?_ ?_ | ((conv => whnf); first | exact trivial | exact rfl | refine And.intro ?_ ?_ | omega))), ?_⟩
  conv => whnf
  rw [hpb]
  refine ⟨fun hc => ?_, fun hc => ?_⟩
  · cases hc
  conv => whnf
  refine call_step (graphOf_t bs ls 0 (by omega) hs.boxB (by omega)) rfl rfl ?_
  conv => whnf
  refine ⟨(by repeat' (first | exact trivial | exact rfl | refine And.intro ?_ ?_ | ((conv => whnf); first | exact trivial | exact rfl | refine And.intro ?_ ?_ | omega))), (by repeat' (first | exact trivial | exact rfl | refine And.intro ?_ ?_ | ((conv => whnf); first | exact trivial | exact rfl | refine And.intro ?_ ?_ | omega))), ?_⟩
  conv => whnf
  have hok := graphF_ok hs 0
  generalize graphF bs ls 0 = arcs at *
  generalize bs.length = n at *
  refine call_step (place_t n arcs a) rfl rfl ?_
  conv => whnf
  refine ⟨(by repeat' (first | exact trivial | exact rfl | refine And.intro ?_ ?_ | ((conv => whnf); first | exact trivial | exact rfl | refine And.intro ?_ ?_ | omega))), (by repeat' (first | exact trivial | exact rfl | refine And.intro ?_ ?_ | ((conv => whnf); first | exact trivial | exact rfl | refine And.intro ?_ ?_ | omega))), ?_⟩
  conv => whnf
  refine call_step (plain_t n arcs (plc n a) (by omega) (by omega) hok (plc_le ha)) rfl rfl ?_
  conv => whnf
  refine ⟨(by repeat' (first | exact trivial | exact rfl | refine And.intro ?_ ?_ | ((conv => whnf); first | exact trivial | exact rfl | refine And.intro ?_ ?_ | omega))), (by repeat' (first | exact trivial | exact rfl | refine And.intro ?_ ?_ | ((conv => whnf); first | exact trivial | exact rfl | refine And.intro ?_ ?_ | omega))), ?_⟩
  conv => whnf
  have hlen := shortF_len n noRev arcs (plc n a) hok
  have hbd := shortF_bd n noRev arcs (plc n a) (by omega) (by omega) hok
  generalize (shortF n noRev arcs (plc n a)).2 = c2 at *
  generalize (shortF n noRev arcs (plc n a)).1 = T at *
  obtain ⟨hl1, hl2, hl3⟩ := hlen
  refine mks_step tB_ok (aInt (List.replicate n 0)) rfl rfl ?_
  conv => whnf
  refine ⟨n, ⟨List.length_replicate, by simp, by simp, by show n * 9 ≤ _; omega, fun x hx => ?_⟩, ?_⟩
  · obtain ⟨_, rfl⟩ := List.mem_replicate.1 hx
    conv => whnf
    repeat' (first | exact trivial | exact rfl | refine And.intro ?_ ?_ | ((conv => whnf); first | exact trivial | exact rfl | refine And.intro ?_ ?_ | omega))
  conv => whnf
  have h0 : List.replicate n (0 : Int) = witN T n 0 := by
    refine List.ext_getElem (by simp [witN]) fun k h1 h2 => ?_
    simp [witN]
  have hwl : ∀ i, (witN T n i).length = n := fun i => by simp [witN]
  refine loop_step tB_ok (G := Nat × List Int) 0 [] (fun g => [(43, iv .i64 g.1)]) (fun g => [(9, true, .arr (aInt g.2))]) (fun g => g.1 ≤ n ∧ g.2 = witN T n g.1) (fun g => n - g.1) ?_
  conv => whnf
  refine ⟨⟨(0, List.replicate n 0), ⟨Nat.zero_le _, h0⟩, ?_⟩, ?_⟩
  · conv => whnf
    repeat' (first | exact trivial | exact rfl | refine And.intro ?_ ?_ | ((conv => whnf); first | exact trivial | exact rfl | refine And.intro ?_ ?_ | omega))
  rintro ⟨i, out⟩ ⟨hi, hout⟩ ρ1 t1 hρ1
  have hi : i ≤ n := hi
  have hout : out = witN T n i := hout
  have hol : out.length = n := by rw [hout, hwl]
  dsimp only
  conv => whnf
  refine ⟨fun hc => ?_, fun hc => ?_⟩
  · have hlt : i < n := by have := of_decide_eq_true (show decide ((i : Int) < n) = true from hc); omega
    have hst := witN_set (T := T) hlt
    rw [← hout] at hst
    have h1 : i < T.sum.length := by omega
    have h2 : n < T.sum.length := by omega
    rw [getD_of h1, getD_of h2] at hst
    have b1 := hbd i
    have b2 := hbd n
    rw [getD_of h1] at b1
    rw [getD_of h2] at b2
    conv => whnf
    refine ⟨i, rfl, by omega, h1, ?_⟩
    conv => whnf
    refine ⟨n, rfl, by omega, h2, ?_⟩
    conv => whnf
    refine ⟨T.sum[i] - T.sum[n], wrapId (z := T.sum[i] - T.sum[n]) ⟨by omega, by omega⟩, ?_⟩
    conv => whnf
    refine ⟨i, rfl, hlt, by show i < out.length; omega, T.sum[i] - T.sum[n], rfl, ?_⟩
    conv => whnf
    refine ⟨(i : Int) + 1, wrapId (z := (i : Int) + 1) ⟨by omega, by omega⟩, ?_⟩
    refine ⟨(i + 1, out.set i (T.sum[i] - T.sum[n])), ⟨hlt, hst⟩, by show n - (i + 1) < n - i; omega, ?_⟩
    conv => whnf
    refine ⟨rfl, ?_⟩
    conv => whnf
    repeat' (first | exact trivial | exact rfl | refine And.intro ?_ ?_ | ((conv => whnf); first | exact trivial | exact rfl | refine And.intro ?_ ?_ | omega))
  have hie : i = n := by have := of_decide_eq_false (show decide ((i : Int) < n) = false from hc); omega
  have hfin : out = witF T n := by
    rw [hout, hie]
    refine List.ext_getElem (by simp [witN, witF]) fun k h1 h2 => ?_
    have : k < n := by rw [hwl] at h1; exact h1
    simp [witN, witF, this]
  subst hfin
  conv => whnf
  repeat' (first | exact trivial | exact rfl | refine And.intro ?_ ?_ | ((conv => whnf); first | exact trivial | exact rfl | refine And.intro ?_ ?_ | omega))
  all_goals simp [witF]

theorem chainErr_t (bs : List (Int × Int)) (ls : List Lnk) (a b : Int) (hs : SysOK bs ls) (hp : withinF a (-1) (bs.length - 1) = false ∨ withinF b (-1) (bs.length - 1) = false) :
    Triple Try.prog 48 [.c (.p 0 0 0 0), iv .i64 a, iv .i64 b] (netH bs ls) 3 (.tup [.inl (.v (.slice none 0 0)), .inl (.v (.int .i64 1))]) [] := by
  refine triple_of tB_ok Try.func48 rfl Try.call48 rfl ?_
  intro ρ w hH
  conv => whnf
  have hnb := hs.nb
  refine call_step (isPlace_t bs ls a (by omega)) rfl rfl ?_
  conv => whnf
  refine ⟨(by repeat' (first | exact trivial | exact rfl | refine And.intro ?_ ?_ | ((conv => whnf); first | exact trivial | exact rfl | refine And.intro ?_ ?_ | omega))), (by repeat' (first | exact trivial | exact rfl | refine And.intro ?_ ?_ | ((conv => whnf); first | exact trivial | exact rfl | refine And.intro ?_ ?_ | omega))), ?_⟩
  conv => whnf
  refine ⟨fun hc => ?_, fun hc => ?_⟩
  · conv => whnf
    repeat' (first | exact trivial | exact rfl | refine And.intro ?_ ?_ | ((conv => whnf); first | exact trivial | exact rfl | refine And.intro ?_ ?_ | omega))
  conv => whnf
  refine call_step (isPlace_t bs ls b (by omega)) rfl rfl ?_
  conv => whnf
  refine ⟨(by repeat' (first | exact trivial | exact rfl | refine And.intro ?_ ?_ | ((conv => whnf); first | exact trivial | exact rfl | refine And.intro ?_ ?_ | omega))), (by repeat' (first | exact trivial | exact rfl | refine And.intro ?_ ?_ | ((conv => whnf); first | exact trivial | exact rfl | refine And.intro ?_ ?_ | omega))), ?_⟩
  conv => whnf
  refine ⟨fun hc => ?_, fun hc => ?_⟩
  · conv => whnf
    repeat' (first | exact trivial | exact rfl | refine And.intro ?_ ?_ | ((conv => whnf); first | exact trivial | exact rfl | refine And.intro ?_ ?_ | omega))
  · simp at *
    simp_all
theorem witnessErr_t (bs : List (Int × Int)) (ls : List Lnk) (a b : Int) (hs : SysOK bs ls) (hp : withinF a (-1) (bs.length - 1) = false ∨ withinF b (-1) (bs.length - 1) = false) :
    Triple Try.prog 49 [.c (.p 0 0 0 0), iv .i64 a, iv .i64 b] (netH bs ls) 3 (.tup [.inl (.v (.slice none 0 0)), .inl (.v (.int .i64 1))]) [] := by
  refine triple_of tB_ok Try.func49 rfl Try.call49 rfl ?_
  intro ρ w hH
  conv => whnf
  have hnb := hs.nb
  refine call_step (isPlace_t bs ls a (by omega)) rfl rfl ?_
  conv => whnf
  refine ⟨(by repeat' (first | exact trivial | exact rfl | refine And.intro ?_ ?_ | ((conv => whnf); first | exact trivial | exact rfl | refine And.intro ?_ ?_ | omega))), (by repeat' (first | exact trivial | exact rfl | refine And.intro ?_ ?_ | ((conv => whnf); first | exact trivial | exact rfl | refine And.intro ?_ ?_ | omega))), ?_⟩
  conv => whnf
  refine ⟨fun hc => ?_, fun hc => ?_⟩
  · conv => whnf
    repeat' (first | exact trivial | exact rfl | refine And.intro ?_ ?_ | ((conv => whnf); first | exact trivial | exact rfl | refine And.intro ?_ ?_ | omega))
  conv => whnf
  refine call_step (isPlace_t bs ls b (by omega)) rfl rfl ?_
  conv => whnf
  refine ⟨(by repeat' (first | exact trivial | exact rfl | refine And.intro ?_ ?_ | ((conv => whnf); first | exact trivial | exact rfl | refine And.intro ?_ ?_ | omega))), (by repeat' (first | exact trivial | exact rfl | refine And.intro ?_ ?_ | ((conv => whnf); first | exact trivial | exact rfl | refine And.intro ?_ ?_ | omega))), ?_⟩
  conv => whnf
  refine ⟨fun hc => ?_, fun hc => ?_⟩
  · conv => whnf
    repeat' (first | exact trivial | exact rfl | refine And.intro ?_ ?_ | ((conv => whnf); first | exact trivial | exact rfl | refine And.intro ?_ ?_ | omega))
  · simp at *
    simp_all

/-! ### What a way back shows -/

theorem plc_inj {n : Nat} {p q : Int} (hp : -1 ≤ p ∧ p < n) (hq : -1 ≤ q ∧ q < n) (h : plc n p = plc n q) : p = q := by
  unfold plc at h
  split at h <;> split at h <;> omega

theorem chainF_append (arcs : List Lnk) : ∀ (x y : List Lnk) (a s : Int), chainF arcs (x ++ y) a s = (chainF arcs x a s).bind fun r => chainF arcs y r.2 r.1
  | [], y, a, s => rfl
  | c :: r, y, a, s => by
    simp only [List.cons_append, chainF]
    split
    · exact chainF_append arcs r y _ _
    · rfl

theorem key_link {n : Nat} {arcs : List Lnk} {k : Nat} (he : keyE n arcs k ∈ edgs n noR 0 arcs) (hk : (keyE n arcs k).k = (k : Int)) :
    ∃ l, arcs[k / 2]? = some l ∧ l ∈ arcs ∧ arcs.getD (k / 2) ⟨0, 0, 0, 0⟩ = l ∧ (keyE n arcs k).a = plc n l.f ∧ (keyE n arcs k).b = plc n l.t ∧ (keyE n arcs k).w = l.m := by
  obtain ⟨_, _, l, hl, h | h⟩ := key_befF he hk
  · exact ⟨l, hl, List.mem_of_getElem? hl, by rw [List.getD_eq_getElem?_getD, hl]; rfl, h.2.1, h.2.2.1, h.2.2.2⟩
  · cases h.2.1

theorem StepP.chain {n : Nat} {arcs : List Lnk} {T : Tr} {ts : Nat → Nat} {a : Int} (hok : ∀ l ∈ arcs, ArcOK n l) (ha : -1 ≤ a ∧ a < n) (h0 : T.sum.getD (plc n a) 0 = 0) : ∀ {ks : List Nat} {b : Int}, (-1 ≤ b ∧ b < n) →
    StepP n arcs (edgs n noR 0 arcs) T ts (plc n a) ks (plc n b) → chainF arcs (linksK arcs ks).reverse a 0 = some (T.sum.getD (plc n b) 0, b)
  | [], b, hb, h => by
    have h : plc n b = plc n a := h
    have he := plc_inj hb ha h
    subst he
    rw [h0]; rfl
  | k :: r, b, hb, h => by
    obtain ⟨h1, h2, h3, h4, h5, h6, h7, h8⟩ := h
    obtain ⟨l, g1, g2, g3, g4, g5, g6⟩ := key_link h2 h3
    obtain ⟨o1, o2, o3⟩ := hok l g2
    rw [g4] at h8 h6
    have ih := StepP.chain hok ha h0 (b := l.f) o1 h8
    have hlt : l.t = b := plc_inj o2 hb (by rw [← g5]; exact h4)
    have e : linksK arcs (k :: r) = l :: linksK arcs r := by
      show arcs.getD (k / 2) _ :: linksK arcs r = _
      rw [g3]
    rw [e, List.reverse_cons, chainF_append, ih]
    show chainF arcs [l] l.f (T.sum.getD (plc n l.f) 0) = _
    unfold chainF
    rw [if_pos ⟨g2, rfl⟩]
    show some (T.sum.getD (plc n l.f) 0 + l.m, l.t) = _
    rw [← g6, h6, hlt]

theorem StepP.tos {n : Nat} {arcs : List Lnk} {T : Tr} {ts : Nat → Nat} {src p : Nat} {ks : List Nat} (hok : ∀ l ∈ arcs, ArcOK n l) (hp : p ≤ n) (h : StepP n arcs (edgs n noR 0 arcs) T ts src ks p) :
    ((linksK arcs ks).reverse.map (·.t)).Nodup ∧ ∀ l ∈ (linksK arcs ks).reverse, plc n l.t ≠ src := by
  obtain ⟨h1, h2⟩ := h.nodes (edgs_ok hok) hp
  have hb : ∀ k ∈ ks, plc n (arcs.getD (k / 2) ⟨0, 0, 0, 0⟩).t = (keyE n arcs k).b := fun k hk => by
    obtain ⟨_, _, _, he, hkk, _⟩ := h1 k hk
    obtain ⟨l, _, _, g3, _, g5, _⟩ := key_link he hkk
    rw [g3, g5]
  have hmap : ((linksK arcs ks).map fun l => plc n l.t) = ks.map fun (k : Nat) => (keyE n arcs k).b := by
    unfold linksK
    rw [List.map_map]
    exact List.map_congr_left fun k hk => hb k hk
  refine ⟨?_, fun l hl => ?_⟩
  · rw [List.map_reverse]
    rw [← hmap] at h2
    unfold List.Nodup at h2 ⊢
    rw [List.pairwise_reverse]
    rw [List.pairwise_map] at h2 ⊢
    exact h2.imp fun hne he => hne (by rw [he])
  · rw [List.mem_reverse] at hl
    obtain ⟨k, hk, rfl⟩ := List.mem_map.1 hl
    rw [hb k hk]
    exact (h1 k hk).2.2.1

theorem witF_val {n : Nat} {T : Tr} {i : Int} (hi : -1 ≤ i ∧ i < n) : atF (witF T n) i = T.sum.getD (plc n i) 0 - T.sum.getD n 0 := by
  unfold atF plc
  by_cases h : i < 0
  · rw [if_pos h, if_pos h]; omega
  · rw [if_neg h, if_neg h]
    have hl : i.toNat < n := by omega
    rw [getD_of (by simp [witF]; exact hl)]
    simp [witF]

theorem valI_at {pt : List Int} {i : Int} (h : -1099511627776 ≤ atF pt i ∧ atF pt i ≤ 1099511627776) : valI pt i = atF pt i := by
  unfold valI atF at *
  split
  · rfl
  · rename_i hi
    rw [if_neg hi] at h
    omega

end Go.Proofs

namespace Go.Proofs
open Go.Sx

theorem calm_tree {bs : List (Int × Int)} {ls : List Lnk} (hs : SysOK bs ls) (hcalm : Calm bs ls 0) (k : Int) {src : Nat} (hsrc : src ≤ bs.length) :
    (shortF bs.length noRev (graphF bs ls k) src).2 = -1 ∧ ∃ ts, Tree bs.length (graphF bs ls k) (edgs bs.length noR 0 (graphF bs ls k)) src (shortF bs.length noRev (graphF bs ls k) src).1 ts := by
  obtain ⟨q, hq⟩ := calm_pot hs hcalm
  have hr := rounds_pot (rev := noR) (k := bs.length + 2) (graphF_ok hs k) (potL_iff.1 (hq k)) hsrc (by omega)
  exact ⟨hr.1, tree_of (rev := noR) (graphF_ok hs k) (hub_graph bs ls k) hsrc hr.1⟩

theorem allF_few {bs : List (Int × Int)} {ls : List Lnk} (h : NetOK bs ls) (k : Int) : (graphF bs ls k).length ≤ 68 := by
  have := allF_len bs ls
  have hf := h.few
  refine Nat.le_trans (List.length_filter_le _ _) ?_
  omega

theorem few_bd {n : Nat} {arcs : List Lnk} {src : Nat} (hn : n ≤ 14) (hl : arcs.length ≤ 200) (hok : ∀ l ∈ arcs, ArcOK n l) (rev : Nat → Bool) : ∀ v, -250000000000 ≤ (shortF n rev arcs src).1.sum.getD v 0 ∧ (shortF n rev arcs src).1.sum.getD v 0 ≤ 250000000000 := by
  intro v
  have h := shortF_tok n rev arcs src hok
  have hb : ((n + 3 : Nat) : Int) * (67108864 * arcs.length) ≤ 17 * (67108864 * 200) := Int.mul_le_mul (by omega) (by omega) (by omega) (by omega)
  by_cases hi : v < (shortF n rev arcs src).1.sum.length
  · have := h.bd _ (getD_mem hi)
    omega
  · rw [List.getD_eq_getElem?_getD, List.getElem?_eq_none (by omega)]
    simp

/-- What Chain and Witness show. -/
theorem proves_law {bs : List (Int × Int)} {ls : List Lnk} {a b : Int} (h : NetOK bs ls) (ha : -1 ≤ a ∧ a < bs.length) (hb : -1 ≤ b ∧ b < bs.length) :
    ∃ ks, stepsF bs.length (graphF bs ls 0) (shortF bs.length noRev (graphF bs ls 0) (plc bs.length a)).1.last (plc bs.length a) (bs.length + 2) (plc bs.length b) = some ks ∧ ks.length ≤ bs.length ∧
      checkChainF bs ls a b (linksK (graphF bs ls 0) ks).reverse = (mostF bs.length (graphF bs ls 0) a b, 0) ∧ ((linksK (graphF bs ls 0) ks).reverse.map (·.t)).Nodup ∧
      (∀ l ∈ (linksK (graphF bs ls 0) ks).reverse, l.t ≠ a) ∧ (a = b → ks = []) ∧
      allowsF bs ls (witF (shortF bs.length noRev (graphF bs ls 0) (plc bs.length a)).1 bs.length) = (⟨0, 0, 0, 0⟩, true) ∧
      atF (witF (shortF bs.length noRev (graphF bs ls 0) (plc bs.length a)).1 bs.length) b - atF (witF (shortF bs.length noRev (graphF bs ls 0) (plc bs.length a)).1 bs.length) a = mostF bs.length (graphF bs ls 0) a b ∧
      (∀ i : Int, (-1 ≤ i ∧ i < bs.length) → -600000000000 ≤ atF (witF (shortF bs.length noRev (graphF bs ls 0) (plc bs.length a)).1 bs.length) i ∧ atF (witF (shortF bs.length noRev (graphF bs ls 0) (plc bs.length a)).1 bs.length) i ≤ 600000000000) := by
  have hf := h.few
  have hpa := plc_le ha.2
  have hpb := plc_le hb.2
  obtain ⟨_, ts, hT⟩ := calm_tree h.sys h.calm 0 hpa
  have hok := graphF_ok h.sys 0
  have hgz := graphF_zero bs ls
  have hlen := allF_few h 0
  have hm : mostF bs.length (graphF bs ls 0) a b = (shortF bs.length noRev (graphF bs ls 0) (plc bs.length a)).1.sum.getD (plc bs.length b) 0 := rfl
  have hbd := few_bd (src := plc bs.length a) hf.1 (show (graphF bs ls 0).length ≤ 200 by omega) hok noRev
  rw [hm]
  generalize (shortF bs.length noRev (graphF bs ls 0) (plc bs.length a)).1 = T at *
  obtain ⟨ks, h1, h2, h3⟩ := hT.path hok hpa hpb
  obtain ⟨h4, h5⟩ := h3.tos hok hpb
  have h6 := h3.chain hok ha hT.src0.1 hb
  have hpot := potL_iff.2 (hT.pot (edgs_ok hok))
  refine ⟨ks, h1, h2, ?_, h4, fun l hl he => h5 l hl (by rw [he]), ?_, ?_, ?_, ?_⟩
  · unfold checkChainF
    rw [if_neg (by rw [checkF_ok.2 h.sys]; simp), if_neg (by simp [placeF]; omega), if_neg (by rw [List.length_reverse, linksK_len]; omega)]
    have e : chainR (allF bs ls) (linksK (graphF bs ls 0) ks).reverse a b = (T.sum.getD (plc bs.length b) 0, b == b) := by
      unfold chainR
      rw [← hgz, h6]
    rw [e]
    simp
  · intro hab
    subst hab
    cases ks with
    | nil => rfl
    | cons k r => exact absurd rfl h3.1
  · unfold allowsF
    rw [if_pos (by simp [witF])]
    have hnone : (allF bs ls).find? (violF (witF T bs.length)) = none := by
      rw [List.find?_eq_none]
      intro l hl
      rw [← hgz] at hl
      obtain ⟨o1, o2, o3⟩ := hok l hl
      have hp : T.sum.getD (plc bs.length l.t) 0 ≤ T.sum.getD (plc bs.length l.f) 0 + l.m := hpot l hl
      have bf := hbd (plc bs.length l.f)
      have bt := hbd (plc bs.length l.t)
      have b0 := hbd bs.length
      have v1 := witF_val (T := T) o1
      have v2 := witF_val (T := T) o2
      have w1 := valI_at (pt := witF T bs.length) (i := l.f) (by rw [v1]; omega)
      have w2 := valI_at (pt := witF T bs.length) (i := l.t) (by rw [v2]; omega)
      unfold violF
      rw [w1, w2, v1, v2]
      simp only [decide_eq_true_eq]
      omega
    rw [hnone]
  · rw [witF_val hb, witF_val ha, hT.src0.1]
    omega
  · intro i hi
    rw [witF_val hi]
    have := hbd (plc bs.length i)
    have := hbd bs.length
    omega

theorem systemProves_t (bs : List (Int × Int)) (ls : List Lnk) (a b : Int) : Triple Try.prog 8 [sysA bs.length ls.length, iv .i64 a, iv .i64 b] (sysH bs ls) 2 (bv true) [] := by
  by_cases h : NetOK bs ls
  · have hf := h.few
    have hnb := h.sys.nb
    have hnl := h.sys.nl
    rcases both_places bs.length a b with ⟨ha, hb, h1, h2⟩ | ⟨h1, h2⟩
    · obtain ⟨ks, hks, hkl, hch, hnd, hto, hab, hal, hat, hbd⟩ := proves_law h ha hb
      have hr1 := refRange_t bs ls a b h.sys ha hb _ _ rfl rfl
      rw [← graphF_zero bs ls, great_net h 0 ha hb] at hr1
      have hc1 := chain_t bs ls a b ks h.sys ha.2 hb.2 h1 h2 hks hkl
      have hw1 := witness_t bs ls a b h.sys ha.2 h1 h2
      have hLl : (linksK (graphF bs ls 0) ks).reverse.length ≤ 14 := by rw [List.length_reverse, linksK_len]; omega
      have hLz : a = b → (linksK (graphF bs ls 0) ks).reverse.length = 0 := fun he => by rw [List.length_reverse, linksK_len, hab he]; rfl
      have hpl : (witF (shortF bs.length noRev (graphF bs ls 0) (plc bs.length a)).1 bs.length).length = bs.length := by simp [witF]
      generalize (linksK (graphF bs ls 0) ks).reverse = L at *
      generalize witF (shortF bs.length noRev (graphF bs ls 0) (plc bs.length a)).1 bs.length = pt at *
      generalize mostF bs.length (graphF bs ls 0) a b = M at *
      generalize greatF bs.length (graphF bs ls 0) b a = M2 at *
      have hcc := refCheckChain_t bs ls L a b (by omega) (by omega) (by omega)
      rw [hch] at hcc
      have haa := refAllows_t bs ls pt h.sys (by omega)
      rw [hal] at haa
      have hbd1 := hbd b hb
      have hbd2 := hbd a ha
      refine triple_of tB_ok Try.func8 rfl Try.call8 rfl ?_
      intro ρ w hH
      conv => whnf
      refine call_step head_t rfl rfl ?_
      conv => whnf
      refine ⟨(by repeat' (first | exact trivial | exact rfl | refine And.intro ?_ ?_ | ((conv => whnf); first | exact trivial | exact rfl | refine And.intro ?_ ?_ | omega))), (by repeat' (first | exact trivial | exact rfl | refine And.intro ?_ ?_ | ((conv => whnf); first | exact trivial | exact rfl | refine And.intro ?_ ?_ | omega))), ?_⟩
      conv => whnf
      refine call_step (netYes_t bs ls h) rfl rfl ?_
      conv => whnf
      refine ⟨(by repeat' (first | exact trivial | exact rfl | refine And.intro ?_ ?_ | ((conv => whnf); first | exact trivial | exact rfl | refine And.intro ?_ ?_ | omega))), (by repeat' (first | exact trivial | exact rfl | refine And.intro ?_ ?_ | ((conv => whnf); first | exact trivial | exact rfl | refine And.intro ?_ ?_ | omega))), ?_⟩
      conv => whnf
      refine call_step hc1 rfl rfl ?_
      conv => whnf
      refine ⟨(by repeat' (first | exact trivial | exact rfl | refine And.intro ?_ ?_ | ((conv => whnf); first | exact trivial | exact rfl | refine And.intro ?_ ?_ | omega))), (by repeat' (first | exact trivial | exact rfl | refine And.intro ?_ ?_ | ((conv => whnf); first | exact trivial | exact rfl | refine And.intro ?_ ?_ | omega))), ?_⟩
      conv => whnf
      refine call_step hw1 rfl rfl ?_
      conv => whnf
      refine ⟨(by repeat' (first | exact trivial | exact rfl | refine And.intro ?_ ?_ | ((conv => whnf); first | exact trivial | exact rfl | refine And.intro ?_ ?_ | omega))), (by repeat' (first | exact trivial | exact rfl | refine And.intro ?_ ?_ | ((conv => whnf); first | exact trivial | exact rfl | refine And.intro ?_ ?_ | omega))), ?_⟩
      conv => whnf
      refine call_step hr1 rfl rfl ?_
      conv => whnf
      refine ⟨(by repeat' (first | exact trivial | exact rfl | refine And.intro ?_ ?_ | ((conv => whnf); first | exact trivial | exact rfl | refine And.intro ?_ ?_ | omega))), (by repeat' (first | exact trivial | exact rfl | refine And.intro ?_ ?_ | ((conv => whnf); first | exact trivial | exact rfl | refine And.intro ?_ ?_ | omega))), ?_⟩
      conv => whnf
      refine ⟨fun hc => absurd hc (by simp), fun hc => ?_⟩
      conv => whnf
      refine ⟨fun hc => absurd hc (by simp), fun hc => ?_⟩
      conv => whnf
      refine ⟨fun hc => absurd hc (by simp), fun hc => ?_⟩
      conv => whnf
      refine call_step hcc rfl rfl ?_
      conv => whnf
      refine ⟨(by repeat' (first | exact trivial | exact rfl | refine And.intro ?_ ?_ | ((conv => whnf); first | exact trivial | exact rfl | refine And.intro ?_ ?_ | omega))), (by repeat' (first | exact trivial | exact rfl | refine And.intro ?_ ?_ | ((conv => whnf); first | exact trivial | exact rfl | refine And.intro ?_ ?_ | omega))), ?_⟩
      conv => whnf
      refine call_step haa rfl rfl ?_
      conv => whnf
      refine ⟨(by repeat' (first | exact trivial | exact rfl | refine And.intro ?_ ?_ | ((conv => whnf); first | exact trivial | exact rfl | refine And.intro ?_ ?_ | omega))), (by repeat' (first | exact trivial | exact rfl | refine And.intro ?_ ?_ | ((conv => whnf); first | exact trivial | exact rfl | refine And.intro ?_ ?_ | omega))), ?_⟩
      conv => whnf
      refine ⟨fun hc => absurd hc (by simp), fun hc => ?_⟩
      conv => whnf
      refine ⟨fun hc => absurd hc (by simp), fun hc => ?_⟩
      conv => whnf
      refine call_step (lawProper_t L hnd (by omega)) rfl rfl ?_
      conv => whnf
      refine ⟨(by repeat' (first | exact trivial | exact rfl | refine And.intro ?_ ?_ | ((conv => whnf); first | exact trivial | exact rfl | refine And.intro ?_ ?_ | omega))), (by repeat' (first | exact trivial | exact rfl | refine And.intro ?_ ?_ | ((conv => whnf); first | exact trivial | exact rfl | refine And.intro ?_ ?_ | omega))), ?_⟩
      conv => whnf
      refine ⟨fun hc => absurd hc (by simp), fun hc => ?_⟩
      conv => whnf
      refine ⟨fun hc => absurd hc (by simp), fun hc => ?_⟩
      conv => whnf
      refine ⟨fun hc => ?_, fun hc => ?_⟩
      · have he : a = b := by simpa using (show (a == b) = true from hc)
        have hz := hLz he
        conv => whnf
        refine ⟨fun hc => absurd hc (by rw [hz]; simp), fun hc => ?_⟩
        conv => whnf
        refine loop_step tB_ok (G := Nat) 0 [] (fun i => [(20, iv .i64 i)]) (fun _ => []) (fun i => i ≤ L.length) (fun i => L.length - i) ?_
        conv => whnf
        refine ⟨⟨0, Nat.zero_le _, ?_⟩, ?_⟩
        · conv => whnf
          repeat' (first | exact trivial | exact rfl | refine And.intro ?_ ?_ | ((conv => whnf); first | exact trivial | exact rfl | refine And.intro ?_ ?_ | omega))
        intro i hi ρ1 t1 hρ1
        conv => whnf
        refine ⟨fun hc => ?_, fun hc => ?_⟩
        · have hlt : i < L.length := by simpa using hc
          conv => whnf
          refine ⟨i, rfl, hlt, hlt, ?_⟩
          conv => whnf
          refine ⟨fun hc => absurd (by simpa using (show (L[i].t == a) = true from hc)) (hto _ (List.getElem_mem hlt)), fun hc => ?_⟩
          conv => whnf
          refine ⟨(i : Int) + 1, wrapId (z := (i : Int) + 1) ⟨by omega, by omega⟩, ?_⟩
          refine ⟨i + 1, hlt, by show L.length - (i + 1) < L.length - i; omega, ?_⟩
          conv => whnf
          refine ⟨rfl, ?_⟩
          conv => whnf
          repeat' (first | exact trivial | exact rfl | refine And.intro ?_ ?_ | ((conv => whnf); first | exact trivial | exact rfl | refine And.intro ?_ ?_ | omega))
        · conv => whnf
          refine ⟨fun hc => ?_, fun hc => absurd hc (by simp)⟩
          conv => whnf
          refine call_step (at_t pt b (by omega)) rfl rfl ?_
          conv => whnf
          refine ⟨(by repeat' (first | exact trivial | exact rfl | refine And.intro ?_ ?_ | ((conv => whnf); first | exact trivial | exact rfl | refine And.intro ?_ ?_ | omega))), (by repeat' (first | exact trivial | exact rfl | refine And.intro ?_ ?_ | ((conv => whnf); first | exact trivial | exact rfl | refine And.intro ?_ ?_ | omega))), ?_⟩
          conv => whnf
          refine call_step (at_t pt a (by omega)) rfl rfl ?_
          conv => whnf
          refine ⟨(by repeat' (first | exact trivial | exact rfl | refine And.intro ?_ ?_ | ((conv => whnf); first | exact trivial | exact rfl | refine And.intro ?_ ?_ | omega))), (by repeat' (first | exact trivial | exact rfl | refine And.intro ?_ ?_ | ((conv => whnf); first | exact trivial | exact rfl | refine And.intro ?_ ?_ | omega))), ?_⟩
          conv => whnf
          refine ⟨atF pt b - atF pt a, wrapId (z := atF pt b - atF pt a) ⟨by omega, by omega⟩, ?_⟩
          conv => whnf
          refine ⟨?_, trivial⟩
          show (atF pt b - atF pt a == M) = true
          rw [hat]; simp
      · conv => whnf
        refine loop_step tB_ok (G := Nat) 0 [] (fun i => [(20, iv .i64 i)]) (fun _ => []) (fun i => i ≤ L.length) (fun i => L.length - i) ?_
        conv => whnf
        refine ⟨⟨0, Nat.zero_le _, ?_⟩, ?_⟩
        · conv => whnf
          repeat' (first | exact trivial | exact rfl | refine And.intro ?_ ?_ | ((conv => whnf); first | exact trivial | exact rfl | refine And.intro ?_ ?_ | omega))
        intro i hi ρ1 t1 hρ1
        conv => whnf
        refine ⟨fun hc => ?_, fun hc => ?_⟩
        · have hlt : i < L.length := by simpa using hc
          conv => whnf
          refine ⟨i, rfl, hlt, hlt, ?_⟩
          conv => whnf
          refine ⟨fun hc => absurd (by simpa using (show (L[i].t == a) = true from hc)) (hto _ (List.getElem_mem hlt)), fun hc => ?_⟩
          conv => whnf
          refine ⟨(i : Int) + 1, wrapId (z := (i : Int) + 1) ⟨by omega, by omega⟩, ?_⟩
          refine ⟨i + 1, hlt, by show L.length - (i + 1) < L.length - i; omega, ?_⟩
          conv => whnf
          refine ⟨rfl, ?_⟩
          conv => whnf
          repeat' (first | exact trivial | exact rfl | refine And.intro ?_ ?_ | ((conv => whnf); first | exact trivial | exact rfl | refine And.intro ?_ ?_ | omega))
        · conv => whnf
          refine ⟨fun hc => ?_, fun hc => absurd hc (by simp)⟩
          conv => whnf
          refine call_step (at_t pt b (by omega)) rfl rfl ?_
          conv => whnf
          refine ⟨(by repeat' (first | exact trivial | exact rfl | refine And.intro ?_ ?_ | ((conv => whnf); first | exact trivial | exact rfl | refine And.intro ?_ ?_ | omega))), (by repeat' (first | exact trivial | exact rfl | refine And.intro ?_ ?_ | ((conv => whnf); first | exact trivial | exact rfl | refine And.intro ?_ ?_ | omega))), ?_⟩
          conv => whnf
          refine call_step (at_t pt a (by omega)) rfl rfl ?_
          conv => whnf
          refine ⟨(by repeat' (first | exact trivial | exact rfl | refine And.intro ?_ ?_ | ((conv => whnf); first | exact trivial | exact rfl | refine And.intro ?_ ?_ | omega))), (by repeat' (first | exact trivial | exact rfl | refine And.intro ?_ ?_ | ((conv => whnf); first | exact trivial | exact rfl | refine And.intro ?_ ?_ | omega))), ?_⟩
          conv => whnf
          refine ⟨atF pt b - atF pt a, wrapId (z := atF pt b - atF pt a) ⟨by omega, by omega⟩, ?_⟩
          conv => whnf
          refine ⟨?_, trivial⟩
          show (atF pt b - atF pt a == M) = true
          rw [hat]; simp
    · have hr1 := refRangeErr_t bs ls a b h2
      refine triple_of tB_ok Try.func8 rfl Try.call8 rfl ?_
      intro ρ w hH
      conv => whnf
      refine call_step head_t rfl rfl ?_
      conv => whnf
      refine ⟨(by repeat' (first | exact trivial | exact rfl | refine And.intro ?_ ?_ | ((conv => whnf); first | exact trivial | exact rfl | refine And.intro ?_ ?_ | omega))), (by repeat' (first | exact trivial | exact rfl | refine And.intro ?_ ?_ | ((conv => whnf); first | exact trivial | exact rfl | refine And.intro ?_ ?_ | omega))), ?_⟩
      conv => whnf
      refine call_step (netYes_t bs ls h) rfl rfl ?_
      conv => whnf
      refine ⟨(by repeat' (first | exact trivial | exact rfl | refine And.intro ?_ ?_ | ((conv => whnf); first | exact trivial | exact rfl | refine And.intro ?_ ?_ | omega))), (by repeat' (first | exact trivial | exact rfl | refine And.intro ?_ ?_ | ((conv => whnf); first | exact trivial | exact rfl | refine And.intro ?_ ?_ | omega))), ?_⟩
      conv => whnf
      refine call_step (chainErr_t bs ls a b h.sys h1) rfl rfl ?_
      conv => whnf
      refine ⟨(by repeat' (first | exact trivial | exact rfl | refine And.intro ?_ ?_ | ((conv => whnf); first | exact trivial | exact rfl | refine And.intro ?_ ?_ | omega))), (by repeat' (first | exact trivial | exact rfl | refine And.intro ?_ ?_ | ((conv => whnf); first | exact trivial | exact rfl | refine And.intro ?_ ?_ | omega))), ?_⟩
      conv => whnf
      refine call_step (witnessErr_t bs ls a b h.sys h1) rfl rfl ?_
      conv => whnf
      refine ⟨(by repeat' (first | exact trivial | exact rfl | refine And.intro ?_ ?_ | ((conv => whnf); first | exact trivial | exact rfl | refine And.intro ?_ ?_ | omega))), (by repeat' (first | exact trivial | exact rfl | refine And.intro ?_ ?_ | ((conv => whnf); first | exact trivial | exact rfl | refine And.intro ?_ ?_ | omega))), ?_⟩
      conv => whnf
      refine call_step hr1 rfl rfl ?_
      conv => whnf
      refine ⟨(by repeat' (first | exact trivial | exact rfl | refine And.intro ?_ ?_ | ((conv => whnf); first | exact trivial | exact rfl | refine And.intro ?_ ?_ | omega))), (by repeat' (first | exact trivial | exact rfl | refine And.intro ?_ ?_ | ((conv => whnf); first | exact trivial | exact rfl | refine And.intro ?_ ?_ | omega))), ?_⟩
      conv => whnf
      refine ⟨fun hc => absurd hc (by simp), fun hc => ?_⟩
      conv => whnf
      refine ⟨fun hc => absurd hc (by simp), fun hc => ?_⟩
      conv => whnf
      refine ⟨fun hc => ?_, fun hc => absurd hc (by simp)⟩
      conv => whnf
      refine ⟨fun hc => ?_, fun hc => absurd hc (by simp)⟩
      conv => whnf
      refine ⟨fun hc => ?_, fun hc => absurd hc (by simp)⟩
      conv => whnf
      repeat' (first | exact trivial | exact rfl | refine And.intro ?_ ?_ | ((conv => whnf); first | exact trivial | exact rfl | refine And.intro ?_ ?_ | omega))
  · skip
    refine triple_of tB_ok Try.func8 rfl Try.call8 rfl ?_
    intro ρ w hH
    conv => whnf
    refine call_step head_t rfl rfl ?_
    conv => whnf
    refine ⟨(by repeat' (first | exact trivial | exact rfl | refine And.intro ?_ ?_ | ((conv => whnf); first | exact trivial | exact rfl | refine And.intro ?_ ?_ | omega))), (by repeat' (first | exact trivial | exact rfl | refine And.intro ?_ ?_ | ((conv => whnf); first | exact trivial | exact rfl | refine And.intro ?_ ?_ | omega))), ?_⟩
    conv => whnf
    refine call_step (netNo_t bs ls h) rfl rfl ?_
    conv => whnf
    refine ⟨(by repeat' (first | exact trivial | exact rfl | refine And.intro ?_ ?_ | ((conv => whnf); first | exact trivial | exact rfl | refine And.intro ?_ ?_ | omega))), (by repeat' (first | exact trivial | exact rfl | refine And.intro ?_ ?_ | ((conv => whnf); first | exact trivial | exact rfl | refine And.intro ?_ ?_ | omega))), ?_⟩
    conv => whnf
    repeat' (first | exact trivial | exact rfl | refine And.intro ?_ ?_ | ((conv => whnf); first | exact trivial | exact rfl | refine And.intro ?_ ?_ | omega))

end Go.Proofs

/-
  Plain lemmas, part 12: a place that was changed in a late round leads back into a cycle with a negative sum. Conditions: none; definitions and plain lemmas.
-/
namespace Go
namespace Proofs

def wsum (f : Nat → Int) : Nat → Int
  | 0 => 0
  | m + 1 => wsum f m + f m

/-- A cycle that relaxing has met: the way back from a place, by the arcs over which each place was reached; behind n + 1 steps it goes round, M steps each time. -/
structure Cyc (n : Nat) (arcs : List Lnk) (T : Tr) (v : Nat) (P kk : Nat → Nat) (M : Nat) : Prop where
  start : P 0 = v
  le : ∀ m, P m ≤ n
  lst : ∀ m, T.last[P m]? = some ((kk m : Nat) : Int)
  bef : ∀ m, befF n arcs (kk m) = some (P (m + 1))
  lnk : ∀ m, ∃ l, arcs[kk m / 2]? = some l ∧ plc n l.t = P m ∧ plc n l.f = P (m + 1)
  pos : 1 ≤ M
  len : M ≤ n + 1
  per : P (n + 1 + M) = P (n + 1)
  low : ∀ m, 1 ≤ m → m < M → P (n + 1 + m) ≠ P (n + 1)
  nodup : ((List.range M).map fun m => P (n + 1 + m)).Nodup
  neg : wsum (fun m => (arcs.getD (kk (n + 1 + m) / 2) ⟨0, 0, 0, 0⟩).m) M < 0

theorem least (p : Nat → Prop) (h : ∃ m, 1 ≤ m ∧ p m) : ∃ m, 1 ≤ m ∧ p m ∧ ∀ k, 1 ≤ k → k < m → ¬ p k := by
  obtain ⟨m, hm⟩ := h
  induction m using Nat.strongRecOn with
  | ind m ih =>
    by_cases hk : ∃ k, k < m ∧ 1 ≤ k ∧ p k
    · obtain ⟨k, h1, h2⟩ := hk
      exact ih k h1 h2
    · exact ⟨m, hm.1, hm.2, fun k h1 h2 h3 => hk ⟨k, h2, h1, h3⟩⟩

theorem cyc_of {n : Nat} {arcs : List Lnk} {src : Nat} (hok : ∀ l ∈ arcs, ArcOK n l) (hs : src ≤ n) (h : (shortF n noR arcs src).2 ≠ -1) :
    ∃ v P kk M, (shortF n noR arcs src).2 = ((v : Nat) : Int) ∧ v ≤ n ∧ Cyc n arcs (shortF n noR arcs src).1 v P kk M := by
  have hE := edgs_ok (rev := noR) hok
  have hG := edgs_key (n := n) (rev := noR) (arcs := arcs)
  obtain ⟨ts, r, hB, hr⟩ := BF.rounds (n := n) (rev := noR) (arcs := arcs) rfl hE (n + 2) 0 _ _ (BF.start hs)
  have hr : ∃ v, v < n + 1 ∧ (shortF n noR arcs src).2 = ((v : Nat) : Int) ∧ (0 + (n + 2)) * (edgs n noR 0 arcs).length + 1 ≤ ts v := by
    rcases hr with hr | hr
    · exact absurd hr.1 h
    · exact hr
  obtain ⟨v, hv, hch, hts⟩ := hr
  have hB : BF (edgs n noR 0 arcs) (n + 1) src r 0 ts (shortF n noR arcs src).1 := hB
  generalize (shortF n noR arcs src).1 = T at *
  rw [Nat.zero_add] at hts
  have hc := hB.chain hE hG hv hts
  obtain ⟨P, hP⟩ : ∃ P, P = backN (keyE n arcs) T v := ⟨_, rfl⟩
  rw [← hP] at hc
  have hstep : ∀ m, P (m + 1) = backF (keyE n arcs) T (P m) := fun m => by rw [hP]; rfl
  obtain ⟨i, j, hij, hj, he⟩ := pigeon (n + 1) P (fun i hi => (hc i (by omega)).1)
  have hshift : ∀ t, P (i + t) = P (j + t) := by
    intro t
    induction t with
    | zero => exact he
    | succ t ih => rw [show i + (t + 1) = i + t + 1 from rfl, show j + (t + 1) = j + t + 1 from rfl, hstep, hstep, ih]
  have hall : ∀ m, P m < n + 1 ∧ T.last.getD (P m) (-1) ≠ -1 := by
    intro m
    induction m using Nat.strongRecOn with
    | ind m ih =>
      by_cases hm : m ≤ n + 2
      · exact ⟨(hc m hm).1, (hc m hm).2.2⟩
      · have e : P m = P (m - (j - i)) := by
          have := hshift (m - j)
          rw [show i + (m - j) = m - (j - i) from by omega, show j + (m - j) = m from by omega] at this
          exact this.symm
        rw [e]
        exact ih _ (by omega)
  have hback := fun m => hB.back hG (hall m).1 (hall m).2
  obtain ⟨kk, hkk⟩ : ∃ kk : Nat → Nat, ∀ m, kk m = (T.last.getD (P m) (-1)).toNat := ⟨fun m => (T.last.getD (P m) (-1)).toNat, fun m => rfl⟩
  have hkk2 : ∀ m, T.last.getD (P m) (-1) = ((kk m : Nat) : Int) := by
    intro m
    obtain ⟨g1, g2, _⟩ := hback m
    have := (hE _ g1).2.2
    rw [g2] at this
    rw [hkk]; omega
  have hkey : ∀ m, keyE n arcs (kk m) ∈ edgs n noR 0 arcs ∧ (keyE n arcs (kk m)).k = (kk m : Int) ∧ (keyE n arcs (kk m)).b = P m ∧ (keyE n arcs (kk m)).a = P (m + 1) := by
    intro m
    obtain ⟨g1, g2, g3, _⟩ := hback m
    rw [hkk2 m] at g1 g2 g3
    refine ⟨g1, g2, g3, ?_⟩
    rw [hstep]; unfold backF; rw [hkk2 m]
  have hlnk : ∀ m, ∃ l, arcs[kk m / 2]? = some l ∧ plc n l.t = P m ∧ plc n l.f = P (m + 1) ∧ (keyE n arcs (kk m)).w = l.m := by
    intro m
    obtain ⟨h1, h2, h3, h4⟩ := hkey m
    obtain ⟨_, _, l, hl, h5 | h5⟩ := key_befF h1 h2
    · exact ⟨l, hl, by rw [← h5.2.2.1]; exact h3, by rw [← h5.2.1]; exact h4, h5.2.2.2⟩
    · cases h5.2.1
  obtain ⟨M, hM1, hM2, hM3⟩ := least (fun M => P (n + 1 + M) = P (n + 1)) ⟨j - i, by omega, by
    have := hshift (n + 1 - i)
    rw [show i + (n + 1 - i) = n + 1 from by omega, show j + (n + 1 - i) = n + 1 + (j - i) from by omega] at this
    exact this.symm⟩
  have hsh2 : ∀ x y t, P (n + 1 + x) = P (n + 1 + y) → P (n + 1 + x + t) = P (n + 1 + y + t) := by
    intro x y t hxy
    induction t with
    | zero => exact hxy
    | succ t ih => rw [show n + 1 + x + (t + 1) = n + 1 + x + t + 1 from rfl, show n + 1 + y + (t + 1) = n + 1 + y + t + 1 from rfl, hstep, hstep, ih]
  have hnd : ((List.range M).map fun m => P (n + 1 + m)).Nodup := by
    unfold List.Nodup
    rw [List.pairwise_map, List.pairwise_iff_getElem]
    intro x y hx hy hxy hexy
    simp only [List.getElem_range] at hexy
    have hyM : y < M := by simpa using hy
    have := hsh2 x y (M - y) hexy
    rw [show n + 1 + y + (M - y) = n + 1 + M from by omega, hM2, show n + 1 + x + (M - y) = n + 1 + (x + (M - y)) from by omega] at this
    exact hM3 (x + (M - y)) (by omega) (by omega) this
  refine ⟨v, P, kk, M, hch, by omega, ⟨by rw [hP]; rfl, fun m => by have := (hall m).1; omega, fun m => ?_, fun m => ?_, fun m => ?_, hM1, ?_, hM2, hM3, hnd, ?_⟩⟩
  · have hl : P m < T.last.length := by rw [hB.ll]; exact (hall m).1
    rw [← hkk2 m, List.getD_eq_getElem?_getD, List.getElem?_eq_getElem hl]; rfl
  · obtain ⟨h1, h2, h3, h4⟩ := hkey m
    rw [(key_befF h1 h2).2.1, h4]
  · obtain ⟨l, h1, h2, h3, _⟩ := hlnk m
    exact ⟨l, h1, h2, h3⟩
  · have := nodup_len (N := n + 1) hnd (fun x hx => by
      obtain ⟨m, _, rfl⟩ := List.mem_map.1 hx
      exact (hall _).1)
    simpa using this
  · obtain ⟨Q, hQ⟩ : ∃ Q : Nat → Int, ∀ k, Q k = -wsum (fun m => (arcs.getD (kk (n + 1 + m) / 2) ⟨0, 0, 0, 0⟩).m) (k - (n + 1)) := ⟨fun k => -wsum (fun m => (arcs.getD (kk (n + 1 + m) / 2) ⟨0, 0, 0, 0⟩).m) (k - (n + 1)), fun k => rfl⟩
    have hf := hB.fall hG (v := v) (i := n + 1) (m := M) (Q := Q) (fun k _ _ => by rw [← hP]; exact hall k) (fun k h1 h2 => by
      rw [hQ, hQ, show k + 1 - (n + 1) = (k - (n + 1)) + 1 from by omega]
      show _ ≤ -(wsum (fun m => (arcs.getD (kk (n + 1 + m) / 2) ⟨0, 0, 0, 0⟩).m) (k - (n + 1)) + (arcs.getD (kk (n + 1 + (k - (n + 1))) / 2) ⟨0, 0, 0, 0⟩).m) + (keyE n arcs (T.last.getD (backN (keyE n arcs) T v k) (-1))).w
      rw [show n + 1 + (k - (n + 1)) = k from by omega, ← hP, hkk2 k]
      obtain ⟨l, g1, g2, g3, g4⟩ := hlnk k
      rw [g4, List.getD_eq_getElem?_getD, g1]
      simp only [Option.getD_some]
      omega) hM1
    rw [← hP, hM2, hQ, hQ, show n + 1 + M - (n + 1) = M from by omega, Nat.sub_self] at hf
    simp only [wsum] at hf
    rcases hf with hf | hf
    · omega
    · omega

/-- The links of the first steps round a cycle. -/
def cycL (n : Nat) (arcs : List Lnk) (kk : Nat → Nat) (m : Nat) : List Lnk := (List.range m).map fun i => arcs.getD (kk (n + 1 + i) / 2) ⟨0, 0, 0, 0⟩

theorem cycL_succ (n : Nat) (arcs : List Lnk) (kk : Nat → Nat) (m : Nat) : cycL n arcs kk (m + 1) = cycL n arcs kk m ++ [arcs.getD (kk (n + 1 + m) / 2) ⟨0, 0, 0, 0⟩] := by
  unfold cycL; rw [List.range_succ, List.map_append]; rfl

theorem Cyc.tos {n : Nat} {arcs : List Lnk} {T : Tr} {v : Nat} {P kk : Nat → Nat} {M : Nat} (h : Cyc n arcs T v P kk M) : ((cycL n arcs kk M).reverse.map (·.t)).Nodup := by
  have hmap : ((cycL n arcs kk M).map fun l => plc n l.t) = (List.range M).map fun m => P (n + 1 + m) := by
    unfold cycL
    rw [List.map_map]
    refine List.map_congr_left fun m _ => ?_
    obtain ⟨l, h1, h2, _⟩ := h.lnk (n + 1 + m)
    show plc n (arcs.getD (kk (n + 1 + m) / 2) ⟨0, 0, 0, 0⟩).t = _
    rw [List.getD_eq_getElem?_getD, h1]
    exact h2
  have h2 := h.nodup
  rw [← hmap] at h2
  rw [List.map_reverse]
  unfold List.Nodup at h2 ⊢
  rw [List.pairwise_reverse]
  rw [List.pairwise_map] at h2 ⊢
  exact h2.imp fun hne he => hne (by rw [he])

end Proofs
end Go

