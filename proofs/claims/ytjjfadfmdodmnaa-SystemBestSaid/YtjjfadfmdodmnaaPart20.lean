/-
  A part of the proof that a law of dryweightlaw03 answers true: lemmas of a symbolic walk, plain functions, or contracts of the functions walked (X5, X9, Xa, Pm13). Conditions: none.
-/
import Derived.Test.YtjjfadfmdodmnaaPart19
import Derived.Test.YtjjfadfmdodmnaaPart18
import Derived.Test.YtjjfadfmdodmnaaPart14
set_option maxRecDepth 100000
namespace Go.Proofs
open Go.Sx

theorem graphF_without {bs : List (Int × Int)} {ls : List Lnk} {id : Int} (h : id ≠ 0) : allF bs (withoutF ls id) = graphF bs ls id := by
  unfold allF graphF withoutF allF
  rw [List.filter_append]
  congr 1
  · symm
    refine List.filter_eq_self.2 fun l hl => ?_
    have hi : l.i = 0 := by
      obtain ⟨i, b, _, h1 | h1⟩ := boxLinks_mem hl <;> rw [h1]
    unfold keeps
    rw [hi]
    have : (0 : Int) ≠ id := fun h2 => h h2.symm
    simp [this]
  · refine List.filter_congr fun l _ => ?_
    unfold keeps
    have : (id == 0) = false := by simpa using h
    rw [this, Bool.false_or]

theorem calm_pot {bs : List (Int × Int)} {ls : List Lnk} (hs : SysOK bs ls) (h : Calm bs ls 0) : ∃ q : Nat → Int, ∀ k, PotL bs.length q (graphF bs ls k) := by
  have hp := (rounds_hub (rev := noR) (k := bs.length + 2) (graphF_ok hs 0) (hub_graph bs ls 0) (Nat.le_refl _) h).2
  have hL := potL_iff.2 hp
  refine ⟨fun v => (shortF bs.length noR (graphF bs ls 0) bs.length).1.sum.getD v 0, fun k l hl => hL l ?_⟩
  rw [graphF_zero]
  exact (List.mem_filter.1 hl).1

theorem great_net {bs : List (Int × Int)} {ls : List Lnk} {a b : Int} (h : NetOK bs ls) (k : Int) (ha : -1 ≤ a ∧ a < bs.length) (hb : -1 ≤ b ∧ b < bs.length) :
    greatF bs.length (graphF bs ls k) a b = mostF bs.length (graphF bs ls k) a b := by
  obtain ⟨q, hq⟩ := calm_pot h.sys h.calm
  have hf := h.few
  have hl : (graphF bs ls k).length ≤ 200 := by
    have := allF_len bs ls
    refine Nat.le_trans (List.length_filter_le _ _) ?_
    omega
  exact great_most hf.1 hl (graphF_ok h.sys k) (hub_graph bs ls k) (hq k) ha hb

theorem needs_net {bs : List (Int × Int)} {ls : List Lnk} {a b : Int} (h : NetOK bs ls) (ha : -1 ≤ a ∧ a < bs.length) (hb : -1 ≤ b ∧ b < bs.length) :
    (idsF ls).filter (fun id => !decide (mostF bs.length (graphF bs ls id) a b ≤ mostF bs.length (graphF bs ls 0) a b)) = refNeedsF bs ls a b := by
  have hids : idsF ls = refIds ls := ids_eq fun l hl => by
    have := (properF_iff.1 (h.sys.lnk l hl)).2.2.2.2; omega
  rw [hids]
  unfold refNeedsF
  refine List.filter_congr fun id hid => ?_
  have hne : id ≠ 0 := by
    have := (refIds_inc (ls := ls) (o := []) List.Pairwise.nil).2 id
    have hid : id ∈ ls.foldl (fun o l => insI o l.i) [] := hid
    rw [this] at hid
    rcases hid with hid | hid
    · cases hid
    · exact hid.1
  rw [graphF_without hne, great_net h id ha hb, ← graphF_zero bs ls, great_net h 0 ha hb, ← decide_not]
  exact decide_eq_decide.2 (by omega)

theorem needsE_t (bs : List (Int × Int)) (ls : List Lnk) (a b : Int) (hs : SysOK bs ls) (hp : withinF a (-1) (bs.length - 1) = false ∨ withinF b (-1) (bs.length - 1) = false) :
    Triple Try.prog 23 [.c (.p 0 0 0 0), iv .i64 a, iv .i64 b] (netH bs ls) 3 (.tup [.inl (.s 3 0 0 1), .inl (.v (.int .i64 1))]) [(3, true, .arr (aInt []))] := by
  refine triple_of tB_ok Try.func23 rfl Try.call23 rfl ?_
  intro ρ w hH
  conv => whnf
  have hnb := hs.nb
  refine call_step (isPlace_t bs ls a (by omega)) rfl rfl ?_
  conv => whnf
  refine ⟨(by repeat' (first | exact trivial | exact rfl | refine And.intro ?_ ?_ | ((conv => whnf); first | exact trivial | exact rfl | refine And.intro ?_ ?_ | omega))), (by repeat' (first | exact trivial | exact rfl | refine And.intro ?_ ?_ | ((conv => whnf); first | exact trivial | exact rfl | refine And.intro ?_ ?_ | omega))), ?_⟩
  conv => whnf
  refine ⟨fun hc => ?_, fun hc => ?_⟩
  · conv => whnf
    repeat' (first | exact trivial | exact rfl | refine And.intro ?_ ?_ | ((conv => whnf); first | exact trivial | exact rfl | refine And.intro ?_ ?_ | omega))
  conv => whnf
  refine call_step (isPlace_t bs ls b (by omega)) rfl rfl ?_
  conv => whnf
  refine ⟨(by repeat' (first | exact trivial | exact rfl | refine And.intro ?_ ?_ | ((conv => whnf); first | exact trivial | exact rfl | refine And.intro ?_ ?_ | omega))), (by repeat' (first | exact trivial | exact rfl | refine And.intro ?_ ?_ | ((conv => whnf); first | exact trivial | exact rfl | refine And.intro ?_ ?_ | omega))), ?_⟩
  conv => whnf
  refine ⟨fun hc => ?_, fun hc => ?_⟩
  · conv => whnf
    repeat' (first | exact trivial | exact rfl | refine And.intro ?_ ?_ | ((conv => whnf); first | exact trivial | exact rfl | refine And.intro ?_ ?_ | omega))
  · simp at *
    simp_all

theorem refNeedsE_t (bs : List (Int × Int)) (ls : List Lnk) (a b : Int) (hp : placeF bs.length a = false ∨ placeF bs.length b = false) :
    Triple Try.prog 24 [sysA bs.length ls.length, iv .i64 a, iv .i64 b] (sysH bs ls) 2 (.tup [.inl (.s 2 0 0 1), .inl (.v (.int .i64 1))]) [(2, true, .arr (aInt []))] := by
  refine triple_of tB_ok Try.func24 rfl Try.call24 rfl ?_
  intro ρ w hH
  conv => whnf
  refine call_step (refPlace_t bs ls a) rfl rfl ?_
  conv => whnf
  refine ⟨(by repeat' (first | exact trivial | exact rfl | refine And.intro ?_ ?_ | ((conv => whnf); first | exact trivial | exact rfl | refine And.intro ?_ ?_ | omega))), (by repeat' (first | exact trivial | exact rfl | refine And.intro ?_ ?_ | ((conv => whnf); first | exact trivial | exact rfl | refine And.intro ?_ ?_ | omega))), ?_⟩
  conv => whnf
  refine ⟨fun hc => ?_, fun hc => ?_⟩
  · conv => whnf
    repeat' (first | exact trivial | exact rfl | refine And.intro ?_ ?_ | ((conv => whnf); first | exact trivial | exact rfl | refine And.intro ?_ ?_ | omega))
  conv => whnf
  refine call_step (refPlace_t bs ls b) rfl rfl ?_
  conv => whnf
  refine ⟨(by repeat' (first | exact trivial | exact rfl | refine And.intro ?_ ?_ | ((conv => whnf); first | exact trivial | exact rfl | refine And.intro ?_ ?_ | omega))), (by repeat' (first | exact trivial | exact rfl | refine And.intro ?_ ?_ | ((conv => whnf); first | exact trivial | exact rfl | refine And.intro ?_ ?_ | omega))), ?_⟩
  conv => whnf
  refine ⟨fun hc => ?_, fun hc => ?_⟩
  · conv => whnf
    repeat' (first | exact trivial | exact rfl | refine And.intro ?_ ?_ | ((conv => whnf); first | exact trivial | exact rfl | refine And.intro ?_ ?_ | omega))
  · simp at *
    simp_all

theorem both_places (n : Nat) (a b : Int) : ((-1 ≤ a ∧ a < n) ∧ (-1 ≤ b ∧ b < n) ∧ withinF a (-1) (n - 1) = true ∧ withinF b (-1) (n - 1) = true) ∨
    ((withinF a (-1) (n - 1) = false ∨ withinF b (-1) (n - 1) = false) ∧ (placeF n a = false ∨ placeF n b = false)) := by
  cases h1 : withinF a (-1) (n - 1) with
  | false => exact .inr ⟨.inl rfl, .inl (by rw [place_within]; exact h1)⟩
  | true =>
    cases h2 : withinF b (-1) (n - 1) with
    | false => exact .inr ⟨.inr rfl, .inr (by rw [place_within]; exact h2)⟩
    | true =>
      simp [withinF] at h1 h2
      exact .inl ⟨by omega, by omega, rfl, rfl⟩

theorem range_both {bs : List (Int × Int)} {ls : List Lnk} (h : NetOK bs ls) (a b : Int) : ∃ lo hi e : Int,
    Triple Try.prog 21 [.c (.p 0 0 0 0), iv .i64 a, iv .i64 b] (netH bs ls) 3 (.tup [.inr [.v (.int .i64 lo), .v (.int .i64 hi)], .inl (.v (.int .i64 e))]) [] ∧
    Triple Try.prog 22 [sysA bs.length ls.length, iv .i64 a, iv .i64 b] (sysH bs ls) 2 (.tup [.inr [.v (.int .i64 lo), .v (.int .i64 hi)], .inl (.v (.int .i64 e))]) [] := by
  rcases both_places bs.length a b with ⟨ha, hb, h1, h2⟩ | ⟨h1, h2⟩
  · refine ⟨_, _, 0, range_t bs ls a b h.sys ha.2 hb.2 h1 h2 _ _ rfl rfl, refRange_t bs ls a b h.sys ha hb _ _ ?_ ?_⟩
    · rw [← great_net h 0 hb ha, graphF_zero]
    · rw [← great_net h 0 ha hb, graphF_zero]
  · exact ⟨0, 0, 1, rangeErr_t bs ls a b h.sys h1, refRangeErr_t bs ls a b h2⟩

theorem needs_both {bs : List (Int × Int)} {ls : List Lnk} (h : NetOK bs ls) (a b : Int) : ∃ (xs : List Int) (e : Int), xs.length ≤ 1000000 ∧
    Triple Try.prog 23 [.c (.p 0 0 0 0), iv .i64 a, iv .i64 b] (netH bs ls) 3 (.tup [.inl (.s 3 0 xs.length 1), .inl (.v (.int .i64 e))]) [(3, true, .arr (aInt xs))] ∧
    Triple Try.prog 24 [sysA bs.length ls.length, iv .i64 a, iv .i64 b] (sysH bs ls) 2 (.tup [.inl (.s 2 0 xs.length 1), .inl (.v (.int .i64 e))]) [(2, true, .arr (aInt xs))] := by
  rcases both_places bs.length a b with ⟨ha, hb, h1, h2⟩ | ⟨h1, h2⟩
  · have hT := needs_t bs ls a b h.sys ha.2 hb.2 h1 h2
    rw [needs_net h ha hb] at hT
    refine ⟨_, 0, ?_, hT, refNeeds_t bs ls a b h.sys ha hb⟩
    have h3 := refIds_len ls []
    have h4 := h.few
    have h5 : (refNeedsF bs ls a b).length ≤ (refIds ls).length := List.length_filter_le _ _
    have h6 : (refIds ls).length ≤ ls.length := by simpa [refIds] using h3
    omega
  · exact ⟨[], 1, by simp, needsE_t bs ls a b h.sys h1, refNeedsE_t bs ls a b h2⟩

theorem implied_both {bs : List (Int × Int)} {ls : List Lnk} (h : NetOK bs ls) (l : Lnk) : ∃ (x : Bool) (e : Int),
    Triple Try.prog 25 [.c (.p 0 0 0 0), svL l] (netH bs ls) 3 (.tup [.inl (.v (.bool x)), .inl (.v (.int .i64 e))]) [] ∧
    Triple Try.prog 26 [sysA bs.length ls.length, svL l] (sysH bs ls) 2 (.tup [.inl (.v (.bool x)), .inl (.v (.int .i64 e))]) [] := by
  cases hp : properF l bs.length with
  | false => exact ⟨false, 1, impliedErr_t bs ls l h.sys hp, refImpliedErr_t bs ls l hp⟩
  | true =>
    have hp2 := properF_iff.1 hp
    have hT := refImplied_t bs ls l h.sys hp
    rw [← graphF_zero bs ls, great_net h 0 ⟨by omega, by omega⟩ ⟨by omega, by omega⟩] at hT
    exact ⟨_, 0, implied_t bs ls l h.sys hp, hT⟩

theorem systemRanges_t (bs : List (Int × Int)) (ls : List Lnk) (a b : Int) (l : Lnk) : Triple Try.prog 3 [sysA bs.length ls.length, iv .i64 a, iv .i64 b, svL l] (sysH bs ls) 2 (bv true) [] := by
  by_cases h : NetOK bs ls
  · obtain ⟨lo, hi, e1, r1, r2⟩ := range_both h a b
    obtain ⟨xs, e2, hx, n1, n2⟩ := needs_both h a b
    obtain ⟨x, e3, i1, i2⟩ := implied_both h l
    refine triple_of tB_ok Try.func3 rfl Try.call3 rfl ?_
    intro ρ w hH
    conv => whnf
    refine call_step head_t rfl rfl ?_
    conv => whnf
    refine ⟨(by repeat' (first | exact trivial | exact rfl | refine And.intro ?_ ?_ | ((conv => whnf); first | exact trivial | exact rfl | refine And.intro ?_ ?_ | omega))), (by repeat' (first | exact trivial | exact rfl | refine And.intro ?_ ?_ | ((conv => whnf); first | exact trivial | exact rfl | refine And.intro ?_ ?_ | omega))), ?_⟩
    conv => whnf
    refine call_step (netYes_t bs ls h) rfl rfl ?_
    conv => whnf
    refine ⟨(by repeat' (first | exact trivial | exact rfl | refine And.intro ?_ ?_ | ((conv => whnf); first | exact trivial | exact rfl | refine And.intro ?_ ?_ | omega))), (by repeat' (first | exact trivial | exact rfl | refine And.intro ?_ ?_ | ((conv => whnf); first | exact trivial | exact rfl | refine And.intro ?_ ?_ | omega))), ?_⟩
    conv => whnf
    refine call_step r1 rfl rfl ?_
    conv => whnf
    refine ⟨(by repeat' (first | exact trivial | exact rfl | refine And.intro ?_ ?_ | ((conv => whnf); first | exact trivial | exact rfl | refine And.intro ?_ ?_ | omega))), (by repeat' (first | exact trivial | exact rfl | refine And.intro ?_ ?_ | ((conv => whnf); first | exact trivial | exact rfl | refine And.intro ?_ ?_ | omega))), ?_⟩
    conv => whnf
    refine call_step r2 rfl rfl ?_
    conv => whnf
    refine ⟨(by repeat' (first | exact trivial | exact rfl | refine And.intro ?_ ?_ | ((conv => whnf); first | exact trivial | exact rfl | refine And.intro ?_ ?_ | omega))), (by repeat' (first | exact trivial | exact rfl | refine And.intro ?_ ?_ | ((conv => whnf); first | exact trivial | exact rfl | refine And.intro ?_ ?_ | omega))), ?_⟩
    conv => whnf
    refine call_step n1 rfl rfl ?_
    conv => whnf
    refine ⟨(by repeat' (first | exact trivial | exact rfl | refine And.intro ?_ ?_ | ((conv => whnf); first | exact trivial | exact rfl | refine And.intro ?_ ?_ | omega))), (by repeat' (first | exact trivial | exact rfl | refine And.intro ?_ ?_ | ((conv => whnf); first | exact trivial | exact rfl | refine And.intro ?_ ?_ | omega))), ?_⟩
    conv => whnf
    refine call_step n2 rfl rfl ?_
    conv => whnf
    refine ⟨(by repeat' (first | exact trivial | exact rfl | refine And.intro ?_ ?_ | ((conv => whnf); first | exact trivial | exact rfl | refine And.intro ?_ ?_ | omega))), (by repeat' (first | exact trivial | exact rfl | refine And.intro ?_ ?_ | ((conv => whnf); first | exact trivial | exact rfl | refine And.intro ?_ ?_ | omega))), ?_⟩
    conv => whnf
    refine call_step i1 rfl rfl ?_
    conv => whnf
    refine ⟨(by repeat' (first | exact trivial | exact rfl | refine And.intro ?_ ?_ | ((conv => whnf); first | exact trivial | exact rfl | refine And.intro ?_ ?_ | omega))), (by repeat' (first | exact trivial | exact rfl | refine And.intro ?_ ?_ | ((conv => whnf); first | exact trivial | exact rfl | refine And.intro ?_ ?_ | omega))), ?_⟩
    conv => whnf
    refine call_step i2 rfl rfl ?_
    conv => whnf
    refine ⟨(by repeat' (first | exact trivial | exact rfl | refine And.intro ?_ ?_ | ((conv => whnf); first | exact trivial | exact rfl | refine And.intro ?_ ?_ | omega))), (by repeat' (first | exact trivial | exact rfl | refine And.intro ?_ ?_ | ((conv => whnf); first | exact trivial | exact rfl | refine And.intro ?_ ?_ | omega))), ?_⟩
    conv => whnf
    refine call_step (ints_t xs xs hx) rfl rfl ?_
    conv => whnf
    refine ⟨(by repeat' (first | exact trivial | exact rfl | refine And.intro ?_ ?_ | ((conv => whnf); first | exact trivial | exact rfl | refine And.intro ?_ ?_ | omega))), (by repeat' (first | exact trivial | exact rfl | refine And.intro ?_ ?_ | ((conv => whnf); first | exact trivial | exact rfl | refine And.intro ?_ ?_ | omega))), ?_⟩
    conv => whnf
    refine ⟨fun hc => ?_, fun hc => absurd hc (by simp)⟩
    conv => whnf
    refine ⟨fun hc => ?_, fun hc => absurd hc (by simp)⟩
    conv => whnf
    refine ⟨fun hc => ?_, fun hc => absurd hc (by simp)⟩
    conv => whnf
    refine ⟨fun hc => ?_, fun hc => absurd hc (by simp)⟩
    conv => whnf
    refine ⟨fun hc => ?_, fun hc => absurd hc (by simp)⟩
    conv => whnf
    refine ⟨fun hc => ?_, fun hc => absurd hc (by simp)⟩
    conv => whnf
    repeat' (first | exact trivial | exact rfl | refine And.intro ?_ ?_ | ((conv => whnf); first | exact trivial | exact rfl | refine And.intro ?_ ?_ | omega))
    show (e3 == e3) = true
    simp
  · skip
    refine triple_of tB_ok Try.func3 rfl Try.call3 rfl ?_
    intro ρ w hH
    conv => whnf
    refine call_step head_t rfl rfl ?_
    conv => whnf
    refine ⟨(by repeat' (first | exact trivial | exact rfl | refine And.intro ?_ ?_ | ((conv => whnf); first | exact trivial | exact rfl | refine And.intro ?_ ?_ | omega))), (by repeat' (first | exact trivial | exact rfl | refine And.intro ?_ ?_ | ((conv => whnf); first | exact trivial | exact rfl | refine And.intro ?_ ?_ | omega))), ?_⟩
    conv => whnf
    refine call_step (netNo_t bs ls h) rfl rfl ?_
    conv => whnf
    refine ⟨(by repeat' (first | exact trivial | exact rfl | refine And.intro ?_ ?_ | ((conv => whnf); first | exact trivial | exact rfl | refine And.intro ?_ ?_ | omega))), (by repeat' (first | exact trivial | exact rfl | refine And.intro ?_ ?_ | ((conv => whnf); first | exact trivial | exact rfl | refine And.intro ?_ ?_ | omega))), ?_⟩
    conv => whnf
    repeat' (first | exact trivial | exact rfl | refine And.intro ?_ ?_ | ((conv => whnf); first | exact trivial | exact rfl | refine And.intro ?_ ?_ | omega))

end Go.Proofs

namespace Go.Proofs
open Go.Sx

def witF (T : Tr) (n : Nat) : List Int := (List.range n).map fun v => T.sum.getD v 0 - T.sum.getD n 0
def witN (T : Tr) (n i : Nat) : List Int := (List.range n).map fun v => if v < i then T.sum.getD v 0 - T.sum.getD n 0 else 0

theorem witN_set {T : Tr} {n i : Nat} (h : i < n) : (witN T n i).set i (T.sum.getD i 0 - T.sum.getD n 0) = witN T n (i + 1) := by
  refine List.ext_getElem (by simp [witN]) fun k h1 h2 => ?_
  simp only [witN, List.getElem_set, List.getElem_map, List.getElem_range]
  by_cases hk : i = k
  · subst hk; rw [if_pos rfl, if_pos (by omega)]
  · rw [if_neg hk]
    by_cases hk2 : k < i
    · rw [if_pos hk2, if_pos (by omega)]
    · rw [if_neg hk2, if_neg (by omega)]

theorem shortF_bd (n : Nat) (rev : Nat → Bool) (arcs : List Lnk) (src : Nat) (hn : n ≤ 1000) (hl : arcs.length ≤ 10000) (hok : ∀ l ∈ arcs, ArcOK n l) : ∀ v, -700000000000000 ≤ (shortF n rev arcs src).1.sum.getD v 0 ∧ (shortF n rev arcs src).1.sum.getD v 0 ≤ 700000000000000 := by
  intro v
  have h := shortF_tok n rev arcs src hok
  have hb : ((n + 3 : Nat) : Int) * (67108864 * arcs.length) ≤ 1003 * (67108864 * 10000) := Int.mul_le_mul (by omega) (by omega) (by omega) (by omega)
  by_cases hi : v < (shortF n rev arcs src).1.sum.length
  · have := h.bd _ (getD_mem hi)
    omega
  · rw [List.getD_eq_getElem?_getD, List.getElem?_eq_none (by omega)]
    simp

theorem witness_t (bs : List (Int × Int)) (ls : List Lnk) (a b : Int) (hs : SysOK bs ls) (ha : a < bs.length) (hpa : withinF a (-1) (bs.length - 1) = true) (hpb : withinF b (-1) (bs.length - 1) = true) :
    Triple Try.prog 49 [.c (.p 0 0 0 0), iv .i64 a, iv .i64 b] (netH bs ls) 3 (.tup [.inl (.s 3 0 (witF (shortF bs.length noRev (graphF bs ls 0) (plc bs.length a)).1 bs.length).length 1), .inl (.v (.int .i64 0))])
      [(3, true, .arr (aInt (witF (shortF bs.length noRev (graphF bs ls 0) (plc bs.length a)).1 bs.length)))] := by
  refine triple_of tB_ok Try.func49 rfl Try.call49 rfl ?_
  intro ρ w hH
  conv => whnf
  have hnb := hs.nb
  have hnl := hs.nl
  have hgl := graphF_len hs 0
  refine call_step (isPlace_t bs ls a (by omega)) rfl rfl ?_
  conv => whnf
  refine ⟨(by repeat' (first | exact trivial | exact rfl | refine And.intro ?_ ?_ | ((conv => whnf); first | exact trivial | exact rfl | refine And.intro ?_ ?_ | omega))), (by repeat' (first | exact trivial | exact rfl | refine And.intro ?_ ?_ | ((conv => whnf); first | exact trivial | exact rfl | refine And.intro ?_ ?_ | omega))), ?_⟩
  conv => whnf
  rw [hpa]
  refine ⟨fun hc => ?_, fun hc => ?_⟩
  · cases hc
  conv => whnf
  refine call_step (isPlace_t bs ls b (by omega)) rfl rfl ?_
  conv => whnf
  refine ⟨(by repeat' (first | exact trivial | exact rfl | refine And.intro ?_ ?_ | ((conv => whnf); first | exact trivial | exact rfl | refine And.intro ?_ ?_ | omega))), (by repeat' (first | exact trivial | exact rfl | refine And.intro ?_ ?_ | ((conv => whnf); first | exact trivial | exact rfl | refine And.intro ?_ ?_ | omega))), ?_⟩
  conv => whnf
  rw [hpb]
  refine ⟨fun hc => ?_, fun hc => ?_⟩
  · cases hc
  conv => whnf
  refine call_step (graphOf_t bs ls 0 (by omega) hs.boxB (by omega)) rfl rfl ?_
  conv => whnf
  refine ⟨(by repeat' (first | exact trivial | exact rfl | refine And.intro ?_ ?_ | ((conv => whnf); first | exact trivial | exact rfl | refine And.intro ?_ ?_ | omega))), (by repeat' (first | exact trivial | exact rfl | refine And.intro ?_ ?_ | ((conv => whnf); first | exact trivial | exact rfl | refine And.intro ?_ ?_ | omega))), ?_⟩
  conv => whnf
  have hok := graphF_ok hs 0
  generalize graphF bs ls 0 = arcs at *
  generalize bs.length = n at *
  refine call_step (place_t n arcs a) rfl rfl ?_
  conv => whnf
  refine ⟨(by repeat' (first | exact trivial | exact rfl | refine And.intro ?_ ?_ | ((conv => whnf); first | exact trivial | exact rfl | refine And.intro ?_ ?_ | omega))), (by repeat' (first | exact trivial | exact rfl | refine And.intro ?_ ?_ | ((conv => whnf); first | exact trivial | exact rfl | refine And.intro ?_ ?_ | omega))), ?_⟩
  conv => whnf
  refine call_step (plain_t n arcs (plc n a) (by omega) (by omega) hok (plc_le ha)) rfl rfl ?_
  conv => whnf
  refine ⟨(by repeat' (first | exact trivial | exact rfl | refine And.intro ?_ ?_ | ((conv => whnf); first | exact trivial | exact rfl | refine And.intro ?_ ?_ | omega))), (by repeat' (first | exact trivial | exact rfl | refine And.intro ?_ ?_ | ((conv => whnf); first | exact trivial | exact rfl | refine And.intro ?_ ?_ | omega))), ?_⟩
  conv => whnf
  have hlen := shortF_len n noRev arcs (plc n a) hok
  have hbd := shortF_bd n noRev arcs (plc n a) (by omega) (by omega) hok
  generalize (shortF n noRev arcs (plc n a)).2 = c2 at *
  generalize (shortF n noRev arcs (plc n a)).1 = T at *
  obtain ⟨hl1, hl2, hl3⟩ := hlen
  refine mks_step tB_ok (aInt (List.replicate n 0)) rfl rfl ?_
  conv => whnf
  refine ⟨n, ⟨List.length_replicate, by simp, by simp, by show n * 9 ≤ _; omega, fun x hx => ?_⟩, ?_⟩
  · obtain ⟨_, rfl⟩ := List.mem_replicate.1 hx
    conv => whnf
    repeat' (first | exact trivial | exact rfl | refine And.intro ?_ ?_ | ((conv => whnf); first | exact trivial | exact rfl | refine And.intro ?_ ?_ | omega))
  conv => whnf
  have h0 : List.replicate n (0 : Int) = witN T n 0 := by
    refine List.ext_getElem (by simp [witN]) fun k h1 h2 => ?_
    simp [witN]
  have hwl : ∀ i, (witN T n i).length = n := fun i => by simp [witN]
  refine loop_step tB_ok (G := Nat × List Int) 0 [] (fun g => [(43, iv .i64 g.1)]) (fun g => [(9, true, .arr (aInt g.2))]) (fun g => g.1 ≤ n ∧ g.2 = witN T n g.1) (fun g => n - g.1) ?_
  conv => whnf
  refine ⟨⟨(0, List.replicate n 0), ⟨Nat.zero_le _, h0⟩, ?_⟩, ?_⟩
  · conv => whnf
    repeat' (first | exact trivial | exact rfl | refine And.intro ?_ ?_ | ((conv => whnf); first | exact trivial | exact rfl | refine And.intro ?_ ?_ | omega))
  rintro ⟨i, out⟩ ⟨hi, hout⟩ ρ1 t1 hρ1
  have hi : i ≤ n := hi
  have hout : out = witN T n i := hout
  have hol : out.length = n := by rw [hout, hwl]
  dsimp only
  conv => whnf
  refine ⟨fun hc => ?_, fun hc => ?_⟩
  · have hlt : i < n := by have := of_decide_eq_true (show decide ((i : Int) < n) = true from hc); omega
    have hst := witN_set (T := T) hlt
    rw [← hout] at hst
    have h1 : i < T.sum.length := by omega
    have h2 : n < T.sum.length := by omega
    rw [getD_of h1, getD_of h2] at hst
    have b1 := hbd i
    have b2 := hbd n
    rw [getD_of h1] at b1
    rw [getD_of h2] at b2
    conv => whnf
    refine ⟨i, rfl, by omega, h1, ?_⟩
    conv => whnf
    refine ⟨n, rfl, by omega, h2, ?_⟩
    conv => whnf
    refine ⟨T.sum[i] - T.sum[n], wrapId (z := T.sum[i] - T.sum[n]) ⟨by omega, by omega⟩, ?_⟩
    conv => whnf
    refine ⟨i, rfl, hlt, by show i < out.length; omega, T.sum[i] - T.sum[n], rfl, ?_⟩
    conv => whnf
    refine ⟨(i : Int) + 1, wrapId (z := (i : Int) + 1) ⟨by omega, by omega⟩, ?_⟩
    refine ⟨(i + 1, out.set i (T.sum[i] - T.sum[n])), ⟨hlt, hst⟩, by show n - (i + 1) < n - i; omega, ?_⟩
    conv => whnf
    refine ⟨rfl, ?_⟩
    conv => whnf
    repeat' (first | exact trivial | exact rfl | refine And.intro ?_ ?_ | ((conv => whnf); first | exact trivial | exact rfl | refine And.intro ?_ ?_ | omega))
  have hie : i = n := by have := of_decide_eq_false (show decide ((i : Int) < n) = false from hc); omega
  have hfin : out = witF T n := by
    rw [hout, hie]
    refine List.ext_getElem (by simp [witN, witF]) fun k h1 h2 => ?_
    have : k < n := by rw [hwl] at h1; exact h1
    simp [witN, witF, this]
  subst hfin
  conv => whnf
  repeat' (first | exact trivial | exact rfl | refine And.intro ?_ ?_ | ((conv => whnf); first | exact trivial | exact rfl | refine And.intro ?_ ?_ | omega))
  all_goals simp [witF]

theorem chainErr_t (bs : List (Int × Int)) (ls : List Lnk) (a b : Int) (hs : SysOK bs ls) (hp : withinF a (-1) (bs.length - 1) = false ∨ withinF b (-1) (bs.length - 1) = false) :
    Triple Try.prog 48 [.c (.p 0 0 0 0), iv .i64 a, iv .i64 b] (netH bs ls) 3 (.tup [.inl (.v (.slice none 0 0)), .inl (.v (.int .i64 1))]) [] := by
  refine triple_of tB_ok Try.func48 rfl Try.call48 rfl ?_
  intro ρ w hH
  conv => whnf
  have hnb := hs.nb
  refine call_step (isPlace_t bs ls a (by omega)) rfl rfl ?_
  conv => whnf
  refine ⟨(by repeat' (first | exact trivial | exact rfl | refine And.intro ?_ ?_ | ((conv => whnf); first | exact trivial | exact rfl | refine And.intro ?_ ?_ | omega))), (by repeat' (first | exact trivial | exact rfl | refine And.intro ?_ ?_ | ((conv => whnf); first | exact trivial | exact rfl | refine And.intro ?_ ?_ | omega))), ?_⟩
  conv => whnf
  refine ⟨fun hc => ?_, fun hc => ?_⟩
  · conv => whnf
    repeat' (first | exact trivial | exact rfl | refine And.intro ?_ ?_ | ((conv => whnf); first | exact trivial | exact rfl | refine And.intro ?_ ?_ | omega))
  conv => whnf
  refine call_step (isPlace_t bs ls b (by omega)) rfl rfl ?_
  conv => whnf
  refine ⟨(by repeat' (first | exact trivial | exact rfl | refine And.intro ?_ ?_ | ((conv => whnf); first | exact trivial | exact rfl | refine And.intro ?_ ?_ | omega))), (by repeat' (first | exact trivial | exact rfl | refine And.intro ?_ ?_ | ((conv => whnf); first | exact trivial | exact rfl | refine And.intro ?_ ?_ | omega))), ?_⟩
  conv => whnf
  refine ⟨fun hc => ?_, fun hc => ?_⟩
  · conv => whnf
    repeat' (first | exact trivial | exact rfl | refine And.intro ?_ ?_ | ((conv => whnf); first | exact trivial | exact rfl | refine And.intro ?_ ?_ | omega))
  · simp at *
    simp_all
theorem witnessErr_t (bs : List (Int × Int)) (ls : List Lnk) (a b : Int) (hs : SysOK bs ls) (hp : withinF a (-1) (bs.length - 1) = false ∨ withinF b (-1) (bs.length - 1) = false) :
    Triple Try.prog 49 [.c (.p 0 0 0 0), iv .i64 a, iv .i64 b] (netH bs ls) 3 (.tup [.inl (.v (.slice none 0 0)), .inl (.v (.int .i64 1))]) [] := by
  refine triple_of tB_ok Try.func49 rfl Try.call49 rfl ?_
  intro ρ w hH
  conv => whnf
  have hnb := hs.nb
  refine call_step (isPlace_t bs ls a (by omega)) rfl rfl ?_
  conv => whnf
  refine ⟨(by repeat' (first | exact trivial | exact rfl | refine And.intro ?_ ?_ | ((conv => whnf); first | exact trivial | exact rfl | refine And.intro ?_ ?_ | omega))), (by repeat' (first | exact trivial | exact rfl | refine And.intro ?_ ?_ | ((conv => whnf); first | exact trivial | exact rfl | refine And.intro ?_ ?_ | omega))), ?_⟩
  conv => whnf
  refine ⟨fun hc => ?_, fun hc => ?_⟩
  · conv => whnf
    repeat' (first | exact trivial | exact rfl | refine And.intro ?_ ?_ | ((conv => whnf); first | exact trivial | exact rfl | refine And.intro ?_ ?_ | omega))
  conv => whnf
  refine call_step (isPlace_t bs ls b (by omega)) rfl rfl ?_
  conv => whnf
  refine ⟨(by repeat' (first | exact trivial | exact rfl | refine And.intro ?_ ?_ | ((conv => whnf); first | exact trivial | exact rfl | refine And.intro ?_ ?_ | omega))), (by repeat' (first | exact trivial | exact rfl | refine And.intro ?_ ?_ | ((conv => whnf); first | exact trivial | exact rfl | refine And.intro ?_ ?_ | omega))), ?_⟩
  conv => whnf
  refine ⟨fun hc => ?_, fun hc => ?_⟩
  · conv => whnf
    repeat' (first | exact trivial | exact rfl | refine And.intro ?_ ?_ | ((conv => whnf); first | exact trivial | exact rfl | refine And.intro ?_ ?_ | omega))
  · simp at *
    simp_all

/-! ### What a way back shows -/

theorem plc_inj {n : Nat} {p q : Int} (hp : -1 ≤ p ∧ p < n) (hq : -1 ≤ q ∧ q < n) (h : plc n p = plc n q) : p = q := by
  unfold plc at h
  split at h <;> split at h <;> omega

theorem chainF_append (arcs : List Lnk) : ∀ (x y : List Lnk) (a s : Int), chainF arcs (x ++ y) a s = (chainF arcs x a s).bind fun r => chainF arcs y r.2 r.1
  | [], y, a, s => rfl
  | c :: r, y, a, s => by
    simp only [List.cons_append, chainF]
    split
    · exact chainF_append arcs r y _ _
    · rfl

theorem key_link {n : Nat} {arcs : List Lnk} {k : Nat} (he : keyE n arcs k ∈ edgs n noR 0 arcs) (hk : (keyE n arcs k).k = (k : Int)) :
    ∃ l, arcs[k / 2]? = some l ∧ l ∈ arcs ∧ arcs.getD (k / 2) ⟨0, 0, 0, 0⟩ = l ∧ (keyE n arcs k).a = plc n l.f ∧ (keyE n arcs k).b = plc n l.t ∧ (keyE n arcs k).w = l.m := by
  obtain ⟨_, _, l, hl, h | h⟩ := key_befF he hk
  · exact ⟨l, hl, List.mem_of_getElem? hl, by rw [List.getD_eq_getElem?_getD, hl]; rfl, h.2.1, h.2.2.1, h.2.2.2⟩
  · cases h.2.1

theorem StepP.chain {n : Nat} {arcs : List Lnk} {T : Tr} {ts : Nat → Nat} {a : Int} (hok : ∀ l ∈ arcs, ArcOK n l) (ha : -1 ≤ a ∧ a < n) (h0 : T.sum.getD (plc n a) 0 = 0) : ∀ {ks : List Nat} {b : Int}, (-1 ≤ b ∧ b < n) →
    StepP n arcs (edgs n noR 0 arcs) T ts (plc n a) ks (plc n b) → chainF arcs (linksK arcs ks).reverse a 0 = some (T.sum.getD (plc n b) 0, b)
  | [], b, hb, h => by
    have h : plc n b = plc n a := h
    have he := plc_inj hb ha h
    subst he
    rw [h0]; rfl
  | k :: r, b, hb, h => by
    obtain ⟨h1, h2, h3, h4, h5, h6, h7, h8⟩ := h
    obtain ⟨l, g1, g2, g3, g4, g5, g6⟩ := key_link h2 h3
    obtain ⟨o1, o2, o3⟩ := hok l g2
    rw [g4] at h8 h6
    have ih := StepP.chain hok ha h0 (b := l.f) o1 h8
    have hlt : l.t = b := plc_inj o2 hb (by rw [← g5]; exact h4)
    have e : linksK arcs (k :: r) = l :: linksK arcs r := by
      show arcs.getD (k / 2) _ :: linksK arcs r = _
      rw [g3]
    rw [e, List.reverse_cons, chainF_append, ih]
    show chainF arcs [l] l.f (T.sum.getD (plc n l.f) 0) = _
    unfold chainF
    rw [if_pos ⟨g2, rfl⟩]
    show some (T.sum.getD (plc n l.f) 0 + l.m, l.t) = _
    rw [← g6, h6, hlt]

theorem StepP.tos {n : Nat} {arcs : List Lnk} {T : Tr} {ts : Nat → Nat} {src p : Nat} {ks : List Nat} (hok : ∀ l ∈ arcs, ArcOK n l) (hp : p ≤ n) (h : StepP n arcs (edgs n noR 0 arcs) T ts src ks p) :
    ((linksK arcs ks).reverse.map (·.t)).Nodup ∧ ∀ l ∈ (linksK arcs ks).reverse, plc n l.t ≠ src := by
  obtain ⟨h1, h2⟩ := h.nodes (edgs_ok hok) hp
  have hb : ∀ k ∈ ks, plc n (arcs.getD (k / 2) ⟨0, 0, 0, 0⟩).t = (keyE n arcs k).b := fun k hk => by
    obtain ⟨_, _, _, he, hkk, _⟩ := h1 k hk
    obtain ⟨l, _, _, g3, _, g5, _⟩ := key_link he hkk
    rw [g3, g5]
  have hmap : ((linksK arcs ks).map fun l => plc n l.t) = ks.map fun (k : Nat) => (keyE n arcs k).b := by
    unfold linksK
    rw [List.map_map]
    exact List.map_congr_left fun k hk => hb k hk
  refine ⟨?_, fun l hl => ?_⟩
  · rw [List.map_reverse]
    rw [← hmap] at h2
    unfold List.Nodup at h2 ⊢
    rw [List.pairwise_reverse]
    rw [List.pairwise_map] at h2 ⊢
    exact h2.imp fun hne he => hne (by rw [he])
  · rw [List.mem_reverse] at hl
    obtain ⟨k, hk, rfl⟩ := List.mem_map.1 hl
    rw [hb k hk]
    exact (h1 k hk).2.2.1

theorem witF_val {n : Nat} {T : Tr} {i : Int} (hi : -1 ≤ i ∧ i < n) : atF (witF T n) i = T.sum.getD (plc n i) 0 - T.sum.getD n 0 := by
  unfold atF plc
  by_cases h : i < 0
  · rw [if_pos h, if_pos h]; omega
  · rw [if_neg h, if_neg h]
    have hl : i.toNat < n := by omega
    rw [getD_of (by simp [witF]; exact hl)]
    simp [witF]

theorem valI_at {pt : List Int} {i : Int} (h : -1099511627776 ≤ atF pt i ∧ atF pt i ≤ 1099511627776) : valI pt i = atF pt i := by
  unfold valI atF at *
  split
  · rfl
  · rename_i hi
    rw [if_neg hi] at h
    omega

end Go.Proofs

namespace Go.Proofs
open Go.Sx

theorem calm_tree {bs : List (Int × Int)} {ls : List Lnk} (hs : SysOK bs ls) (hcalm : Calm bs ls 0) (k : Int) {src : Nat} (hsrc : src ≤ bs.length) :
    (shortF bs.length noRev (graphF bs ls k) src).2 = -1 ∧ ∃ ts, Tree bs.length (graphF bs ls k) (edgs bs.length noR 0 (graphF bs ls k)) src (shortF bs.length noRev (graphF bs ls k) src).1 ts := by
  obtain ⟨q, hq⟩ := calm_pot hs hcalm
  have hr := rounds_pot (rev := noR) (k := bs.length + 2) (graphF_ok hs k) (potL_iff.1 (hq k)) hsrc (by omega)
  exact ⟨hr.1, tree_of (rev := noR) (graphF_ok hs k) (hub_graph bs ls k) hsrc hr.1⟩

theorem allF_few {bs : List (Int × Int)} {ls : List Lnk} (h : NetOK bs ls) (k : Int) : (graphF bs ls k).length ≤ 68 := by
  have := allF_len bs ls
  have hf := h.few
  refine Nat.le_trans (List.length_filter_le _ _) ?_
  omega

theorem few_bd {n : Nat} {arcs : List Lnk} {src : Nat} (hn : n ≤ 14) (hl : arcs.length ≤ 200) (hok : ∀ l ∈ arcs, ArcOK n l) (rev : Nat → Bool) : ∀ v, -250000000000 ≤ (shortF n rev arcs src).1.sum.getD v 0 ∧ (shortF n rev arcs src).1.sum.getD v 0 ≤ 250000000000 := by
  intro v
  have h := shortF_tok n rev arcs src hok
  have hb : ((n + 3 : Nat) : Int) * (67108864 * arcs.length) ≤ 17 * (67108864 * 200) := Int.mul_le_mul (by omega) (by omega) (by omega) (by omega)
  by_cases hi : v < (shortF n rev arcs src).1.sum.length
  · have := h.bd _ (getD_mem hi)
    omega
  · rw [List.getD_eq_getElem?_getD, List.getElem?_eq_none (by omega)]
    simp

/-- What Chain and Witness show. -/
theorem proves_law {bs : List (Int × Int)} {ls : List Lnk} {a b : Int} (h : NetOK bs ls) (ha : -1 ≤ a ∧ a < bs.length) (hb : -1 ≤ b ∧ b < bs.length) :
    ∃ ks, stepsF bs.length (graphF bs ls 0) (shortF bs.length noRev (graphF bs ls 0) (plc bs.length a)).1.last (plc bs.length a) (bs.length + 2) (plc bs.length b) = some ks ∧ ks.length ≤ bs.length ∧
      checkChainF bs ls a b (linksK (graphF bs ls 0) ks).reverse = (mostF bs.length (graphF bs ls 0) a b, 0) ∧ ((linksK (graphF bs ls 0) ks).reverse.map (·.t)).Nodup ∧
      (∀ l ∈ (linksK (graphF bs ls 0) ks).reverse, l.t ≠ a) ∧ (a = b → ks = []) ∧
      allowsF bs ls (witF (shortF bs.length noRev (graphF bs ls 0) (plc bs.length a)).1 bs.length) = (⟨0, 0, 0, 0⟩, true) ∧
      atF (witF (shortF bs.length noRev (graphF bs ls 0) (plc bs.length a)).1 bs.length) b - atF (witF (shortF bs.length noRev (graphF bs ls 0) (plc bs.length a)).1 bs.length) a = mostF bs.length (graphF bs ls 0) a b ∧
      (∀ i : Int, (-1 ≤ i ∧ i < bs.length) → -600000000000 ≤ atF (witF (shortF bs.length noRev (graphF bs ls 0) (plc bs.length a)).1 bs.length) i ∧ atF (witF (shortF bs.length noRev (graphF bs ls 0) (plc bs.length a)).1 bs.length) i ≤ 600000000000) := by
  have hf := h.few
  have hpa := plc_le ha.2
  have hpb := plc_le hb.2
  obtain ⟨_, ts, hT⟩ := calm_tree h.sys h.calm 0 hpa
  have hok := graphF_ok h.sys 0
  have hgz := graphF_zero bs ls
  have hlen := allF_few h 0
  have hm : mostF bs.length (graphF bs ls 0) a b = (shortF bs.length noRev (graphF bs ls 0) (plc bs.length a)).1.sum.getD (plc bs.length b) 0 := rfl
  have hbd := few_bd (src := plc bs.length a) hf.1 (show (graphF bs ls 0).length ≤ 200 by omega) hok noRev
  rw [hm]
  generalize (shortF bs.length noRev (graphF bs ls 0) (plc bs.length a)).1 = T at *
  obtain ⟨ks, h1, h2, h3⟩ := hT.path hok hpa hpb
  obtain ⟨h4, h5⟩ := h3.tos hok hpb
  have h6 := h3.chain hok ha hT.src0.1 hb
  have hpot := potL_iff.2 (hT.pot (edgs_ok hok))
  refine ⟨ks, h1, h2, ?_, h4, fun l hl he => h5 l hl (by rw [he]), ?_, ?_, ?_, ?_⟩
  · unfold checkChainF
    rw [if_neg (by rw [checkF_ok.2 h.sys]; simp), if_neg (by simp [placeF]; omega), if_neg (by rw [List.length_reverse, linksK_len]; omega)]
    have e : chainR (allF bs ls) (linksK (graphF bs ls 0) ks).reverse a b = (T.sum.getD (plc bs.length b) 0, b == b) := by
      unfold chainR
      rw [← hgz, h6]
    rw [e]
    simp
  · intro hab
    subst hab
    cases ks with
    | nil => rfl
    | cons k r => exact absurd rfl h3.1
  · unfold allowsF
    rw [if_pos (by simp [witF])]
    have hnone : (allF bs ls).find? (violF (witF T bs.length)) = none := by
      rw [List.find?_eq_none]
      intro l hl
      rw [← hgz] at hl
      obtain ⟨o1, o2, o3⟩ := hok l hl
      have hp : T.sum.getD (plc bs.length l.t) 0 ≤ T.sum.getD (plc bs.length l.f) 0 + l.m := hpot l hl
      have bf := hbd (plc bs.length l.f)
      have bt := hbd (plc bs.length l.t)
      have b0 := hbd bs.length
      have v1 := witF_val (T := T) o1
      have v2 := witF_val (T := T) o2
      have w1 := valI_at (pt := witF T bs.length) (i := l.f) (by rw [v1]; omega)
      have w2 := valI_at (pt := witF T bs.length) (i := l.t) (by rw [v2]; omega)
      unfold violF
      rw [w1, w2, v1, v2]
      simp only [decide_eq_true_eq]
      omega
    rw [hnone]
  · rw [witF_val hb, witF_val ha, hT.src0.1]
    omega
  · intro i hi
    rw [witF_val hi]
    have := hbd (plc bs.length i)
    have := hbd bs.length
    omega

theorem systemProves_t (bs : List (Int × Int)) (ls : List Lnk) (a b : Int) : Triple Try.prog 8 [sysA bs.length ls.length, iv .i64 a, iv .i64 b] (sysH bs ls) 2 (bv true) [] := by
  by_cases h : NetOK bs ls
  · have hf := h.few
    have hnb := h.sys.nb
    have hnl := h.sys.nl
    rcases both_places bs.length a b with ⟨ha, hb, h1, h2⟩ | ⟨h1, h2⟩
    · obtain ⟨ks, hks, hkl, hch, hnd, hto, hab, hal, hat, hbd⟩ := proves_law h ha hb
      have hr1 := refRange_t bs ls a b h.sys ha hb _ _ rfl rfl
      rw [← graphF_zero bs ls, great_net h 0 ha hb] at hr1
      have hc1 := chain_t bs ls a b ks h.sys ha.2 hb.2 h1 h2 hks hkl
      have hw1 := witness_t bs ls a b h.sys ha.2 h1 h2
      have hLl : (linksK (graphF bs ls 0) ks).reverse.length ≤ 14 := by rw [List.length_reverse, linksK_len]; omega
      have hLz : a = b → (linksK (graphF bs ls 0) ks).reverse.length = 0 := fun he => by rw [List.length_reverse, linksK_len, hab he]; rfl
      have hpl : (witF (shortF bs.length noRev (graphF bs ls 0) (plc bs.length a)).1 bs.length).length = bs.length := by simp [witF]
      generalize (linksK (graphF bs ls 0) ks).reverse = L at *
      generalize witF (shortF bs.length noRev (graphF bs ls 0) (plc bs.length a)).1 bs.length = pt at *
      generalize mostF bs.length (graphF bs ls 0) a b = M at *
      generalize greatF bs.length (graphF bs ls 0) b a = M2 at *
      have hcc := refCheckChain_t bs ls L a b (by omega) (by omega) (by omega)
      rw [hch] at hcc
      have haa := refAllows_t bs ls pt h.sys (by omega)
      rw [hal] at haa
      have hbd1 := hbd b hb
      have hbd2 := hbd a ha
      refine triple_of tB_ok Try.func8 rfl Try.call8 rfl ?_
      intro ρ w hH
      conv => whnf
      refine call_step head_t rfl rfl ?_
      conv => whnf
      refine ⟨(by repeat' (first | exact trivial | exact rfl | refine And.intro ?_ ?_ | ((conv => whnf); first | exact trivial | exact rfl | refine And.intro ?_ ?_ | omega))), (by repeat' (first | exact trivial | exact rfl | refine And.intro ?_ ?_ | ((conv => whnf); first | exact trivial | exact rfl | refine And.intro ?_ ?_ | omega))), ?_⟩
      conv => whnf
      refine call_step (netYes_t bs ls h) rfl rfl ?_
      conv => whnf
      refine ⟨(by repeat' (first | exact trivial | exact rfl | refine And.intro ?_ ?_ | ((conv => whnf); first | exact trivial | exact rfl | refine And.intro ?_ ?_ | omega))), (by repeat' (first | exact trivial | exact rfl | refine And.intro ?_ ?_ | ((conv => whnf); first | exact trivial | exact rfl | refine And.intro ?_ ?_ | omega))), ?_⟩
      conv => whnf
      refine call_step hc1 rfl rfl ?_
      conv => whnf
      refine ⟨(by repeat' (first | exact trivial | exact rfl | refine And.intro ?_ ?_ | ((conv => whnf); first | exact trivial | exact rfl | refine And.intro ?_ ?_ | omega))), (by repeat' (first | exact trivial | exact rfl | refine And.intro ?_ ?_ | ((conv => whnf); first | exact trivial | exact rfl | refine And.intro ?_ ?_ | omega))), ?_⟩
      conv => whnf
      refine call_step hw1 rfl rfl ?_
      conv => whnf
      refine ⟨(by repeat' (first | exact trivial | exact rfl | refine And.intro ?_ ?_ | ((conv => whnf); first | exact trivial | exact rfl | refine And.intro ?_ ?_ | omega))), (by repeat' (first | exact trivial | exact rfl | refine And.intro ?_ ?_ | ((conv => whnf); first | exact trivial | exact rfl | refine And.intro ?_ ?_ | omega))), ?_⟩
      conv => whnf
      refine call_step hr1 rfl rfl ?_
      conv => whnf
      refine ⟨(by repeat' (first | exact trivial | exact rfl | refine And.intro ?_ ?_ | ((conv => whnf); first | exact trivial | exact rfl | refine And.intro ?_ ?_ | omega))), (by repeat' (first | exact trivial | exact rfl | refine And.intro ?_ ?_ | ((conv => whnf); first | exact trivial | exact rfl | refine And.intro ?_ ?_ | omega))), ?_⟩
      conv => whnf
      refine ⟨fun hc => absurd hc (by simp), fun hc => ?_⟩
      conv => whnf
      refine ⟨fun hc => absurd hc (by simp), fun hc => ?_⟩
      conv => whnf
      refine ⟨fun hc => absurd hc (by simp), fun hc => ?_⟩
      conv => whnf
      refine call_step hcc rfl rfl ?_
      conv => whnf
      refine ⟨(by repeat' (first | exact trivial | exact rfl | refine And.intro ?_ ?_ | ((conv => whnf); first | exact trivial | exact rfl | refine And.intro ?_ ?_ | omega))), (by repeat' (first | exact trivial | exact rfl | refine And.intro ?_ ?_ | ((conv => whnf); first | exact trivial | exact rfl | refine And.intro ?_ ?_ | omega))), ?_⟩
      conv => whnf
      refine call_step haa rfl rfl ?_
      conv => whnf
      refine ⟨(by repeat' (first | exact trivial | exact rfl | refine And.intro ?_ ?_ | ((conv => whnf); first | exact trivial | exact rfl | refine And.intro ?_ ?_ | omega))), (by repeat' (first | exact trivial | exact rfl | refine And.intro ?_ ?_ | ((conv => whnf); first | exact trivial | exact rfl | refine And.intro ?_ ?_ | omega))), ?_⟩
      conv => whnf
      refine ⟨fun hc => absurd hc (by simp), fun hc => ?_⟩
      conv => whnf
      refine ⟨fun hc => absurd hc (by simp), fun hc => ?_⟩
      conv => whnf
      refine call_step (lawProper_t L hnd (by omega)) rfl rfl ?_
      conv => whnf
      refine ⟨(by repeat' (first | exact trivial | exact rfl | refine And.intro ?_ ?_ | ((conv => whnf); first | exact trivial | exact rfl | refine And.intro ?_ ?_ | omega))), (by repeat' (first | exact trivial | exact rfl | refine And.intro ?_ ?_ | ((conv => whnf); first | exact trivial | exact rfl | refine And.intro ?_ ?_ | omega))), ?_⟩
      conv => whnf
      refine ⟨fun hc => absurd hc (by simp), fun hc => ?_⟩
      conv => whnf
      refine ⟨fun hc => absurd hc (by simp), fun hc => ?_⟩
      conv => whnf
      refine ⟨fun hc => ?_, fun hc => ?_⟩
      · have he : a = b := by simpa using (show (a == b) = true from hc)
        have hz := hLz he
        conv => whnf
        refine ⟨fun hc => absurd hc (by rw [hz]; simp), fun hc => ?_⟩
        conv => whnf
        refine loop_step tB_ok (G := Nat) 0 [] (fun i => [(20, iv .i64 i)]) (fun _ => []) (fun i => i ≤ L.length) (fun i => L.length - i) ?_
        conv => whnf
        refine ⟨⟨0, Nat.zero_le _, ?_⟩, ?_⟩
        · conv => whnf
          repeat' (first | exact trivial | exact rfl | refine And.intro ?_ ?_ | ((conv => whnf); first | exact trivial | exact rfl | refine And.intro ?_ ?_ | omega))
        intro i hi ρ1 t1 hρ1
        conv => whnf
        refine ⟨fun hc => ?_, fun hc => ?_⟩
        · have hlt : i < L.length := by simpa using hc
          conv => whnf
          refine ⟨i, rfl, hlt, hlt, ?_⟩
          conv => whnf
          refine ⟨fun hc => absurd (by simpa using (show (L[i].t == a) = true from hc)) (hto _ (List.getElem_mem hlt)), fun hc => ?_⟩
          conv => whnf
          refine ⟨(i : Int) + 1, wrapId (z := (i : Int) + 1) ⟨by omega, by omega⟩, ?_⟩
          refine ⟨i + 1, hlt, by show L.length - (i + 1) < L.length - i; omega, ?_⟩
          conv => whnf
          refine ⟨rfl, ?_⟩
          conv => whnf
          repeat' (first | exact trivial | exact rfl | refine And.intro ?_ ?_ | ((conv => whnf); first | exact trivial | exact rfl | refine And.intro ?_ ?_ | omega))
        · conv => whnf
          refine ⟨fun hc => ?_, fun hc => absurd hc (by simp)⟩
          conv => whnf
          refine call_step (at_t pt b (by omega)) rfl rfl ?_
          conv => whnf
          refine ⟨(by repeat' (first | exact trivial | exact rfl | refine And.intro ?_ ?_ | ((conv => whnf); first | exact trivial | exact rfl | refine And.intro ?_ ?_ | omega))), (by repeat' (first | exact trivial | exact rfl | refine And.intro ?_ ?_ | ((conv => whnf); first | exact trivial | exact rfl | refine And.intro ?_ ?_ | omega))), ?_⟩
          conv => whnf
          refine call_step (at_t pt a (by omega)) rfl rfl ?_
          conv => whnf
          refine ⟨(by repeat' (first | exact trivial | exact rfl | refine And.intro ?_ ?_ | ((conv => whnf); first | exact trivial | exact rfl | refine And.intro ?_ ?_ | omega))), (by repeat' (first | exact trivial | exact rfl | refine And.intro ?_ ?_ | ((conv => whnf); first | exact trivial | exact rfl | refine And.intro ?_ ?_ | omega))), ?_⟩
          conv => whnf
          refine ⟨atF pt b - atF pt a, wrapId (z := atF pt b - atF pt a) ⟨by omega, by omega⟩, ?_⟩
          conv => whnf
          refine ⟨?_, trivial⟩
          show (atF pt b - atF pt a == M) = true
          rw [hat]; simp
      · conv => whnf
        refine loop_step tB_ok (G := Nat) 0 [] (fun i => [(20, iv .i64 i)]) (fun _ => []) (fun i => i ≤ L.length) (fun i => L.length - i) ?_
        conv => whnf
        refine ⟨⟨0, Nat.zero_le _, ?_⟩, ?_⟩
        · conv => whnf
          repeat' (first | exact trivial | exact rfl | refine And.intro ?_ ?_ | ((conv => whnf); first | exact trivial | exact rfl | refine And.intro ?_ ?_ | omega))
        intro i hi ρ1 t1 hρ1
        conv => whnf
        refine ⟨fun hc => ?_, fun hc => ?_⟩
        · have hlt : i < L.length := by simpa using hc
          conv => whnf
          refine ⟨i, rfl, hlt, hlt, ?_⟩
          conv => whnf
          refine ⟨fun hc => absurd (by simpa using (show (L[i].t == a) = true from hc)) (hto _ (List.getElem_mem hlt)), fun hc => ?_⟩
          conv => whnf
          refine ⟨(i : Int) + 1, wrapId (z := (i : Int) + 1) ⟨by omega, by omega⟩, ?_⟩
          refine ⟨i + 1, hlt, by show L.length - (i + 1) < L.length - i; omega, ?_⟩
          conv => whnf
          refine ⟨rfl, ?_⟩
          conv => whnf
          repeat' (first | exact trivial | exact rfl | refine And.intro ?_ ?_ | ((conv => whnf); first | exact trivial | exact rfl | refine And.intro ?_ ?_ | omega))
        · conv => whnf
          refine ⟨fun hc => ?_, fun hc => absurd hc (by simp)⟩
          conv => whnf
          refine call_step (at_t pt b (by omega)) rfl rfl ?_
          conv => whnf
          refine ⟨(by repeat' (first | exact trivial | exact rfl | refine And.intro ?_ ?_ | ((conv => whnf); first | exact trivial | exact rfl | refine And.intro ?_ ?_ | omega))), (by repeat' (first | exact trivial | exact rfl | refine And.intro ?_ ?_ | ((conv => whnf); first | exact trivial | exact rfl | refine And.intro ?_ ?_ | omega))), ?_⟩
          conv => whnf
          refine call_step (at_t pt a (by omega)) rfl rfl ?_
          conv => whnf
          refine ⟨(by repeat' (first | exact trivial | exact rfl | refine And.intro ?_ ?_ | ((conv => whnf); first | exact trivial | exact rfl | refine And.intro ?_ ?_ | omega))), (by repeat' (first | exact trivial | exact rfl | refine And.intro ?_ ?_ | ((conv => whnf); first | exact trivial | exact rfl | refine And.intro ?_ ?_ | omega))), ?_⟩
          conv => whnf
          refine ⟨atF pt b - atF pt a, wrapId (z := atF pt b - atF pt a) ⟨by omega, by omega⟩, ?_⟩
          conv => whnf
          refine ⟨?_, trivial⟩
          show (atF pt b - atF pt a == M) = true
          rw [hat]; simp
    · have hr1 := refRangeErr_t bs ls a b h2
      refine triple_of tB_ok Try.func8 rfl Try.call8 rfl ?_
      intro ρ w hH
      conv => whnf
      refine call_step head_t rfl rfl ?_
      conv => whnf
      refine ⟨(by repeat' (first | exact trivial | exact rfl | refine And.intro ?_ ?_ | ((conv => whnf); first | exact trivial | exact rfl | refine And.intro ?_ ?_ | omega))), (by repeat' (first | exact trivial | exact rfl | refine And.intro ?_ ?_ | ((conv => whnf); first | exact trivial | exact rfl | refine And.intro ?_ ?_ | omega))), ?_⟩
      conv => whnf
      refine call_step (netYes_t bs ls h) rfl rfl ?_
      conv => whnf
      refine ⟨(by repeat' (first | exact trivial | exact rfl | refine And.intro ?_ ?_ | ((conv => whnf); first | exact trivial | exact rfl | refine And.intro ?_ ?_ | omega))), (by repeat' (first | exact trivial | exact rfl | refine And.intro ?_ ?_ | ((conv => whnf); first | exact trivial | exact rfl | refine And.intro ?_ ?_ | omega))), ?_⟩
      conv => whnf
      refine call_step (chainErr_t bs ls a b h.sys h1) rfl rfl ?_
      conv => whnf
      refine ⟨(by repeat' (first | exact trivial | exact rfl | refine And.intro ?_ ?_ | ((conv => whnf); first | exact trivial | exact rfl | refine And.intro ?_ ?_ | omega))), (by repeat' (first | exact trivial | exact rfl | refine And.intro ?_ ?_ | ((conv => whnf); first | exact trivial | exact rfl | refine And.intro ?_ ?_ | omega))), ?_⟩
      conv => whnf
      refine call_step (witnessErr_t bs ls a b h.sys h1) rfl rfl ?_
      conv => whnf
      refine ⟨(by repeat' (first | exact trivial | exact rfl | refine And.intro ?_ ?_ | ((conv => whnf); first | exact trivial | exact rfl | refine And.intro ?_ ?_ | omega))), (by repeat' (first | exact trivial | exact rfl | refine And.intro ?_ ?_ | ((conv => whnf); first | exact trivial | exact rfl | refine And.intro ?_ ?_ | omega))), ?_⟩
      conv => whnf
      refine call_step hr1 rfl rfl ?_
      conv => whnf
      refine ⟨(by repeat' (first | exact trivial | exact rfl | refine And.intro ?_ ?_ | ((conv => whnf); first | exact trivial | exact rfl | refine And.intro ?_ ?_ | omega))), (by repeat' (first | exact trivial | exact rfl | refine And.intro ?_ ?_ | ((conv => whnf); first | exact trivial | exact rfl | refine And.intro ?_ ?_ | omega))), ?_⟩
      conv => whnf
      refine ⟨fun hc => absurd hc (by simp), fun hc => ?_⟩
      conv => whnf
      refine ⟨fun hc => absurd hc (by simp), fun hc => ?_⟩
      conv => whnf
      refine ⟨fun hc => ?_, fun hc => absurd hc (by simp)⟩
      conv => whnf
      refine ⟨fun hc => ?_, fun hc => absurd hc (by simp)⟩
      conv => whnf
      refine ⟨fun hc => ?_, fun hc => absurd hc (by simp)⟩
      conv => whnf
      repeat' (first | exact trivial | exact rfl | refine And.intro ?_ ?_ | ((conv => whnf); first | exact trivial | exact rfl | refine And.intro ?_ ?_ | omega))
  · skip
    refine triple_of tB_ok Try.func8 rfl Try.call8 rfl ?_
    intro ρ w hH
    conv => whnf
    refine call_step head_t rfl rfl ?_
    conv => whnf
    refine ⟨(by repeat' (first | exact trivial | exact rfl | refine And.intro ?_ ?_ | ((conv => whnf); first | exact trivial | exact rfl | refine And.intro ?_ ?_ | omega))), (by repeat' (first | exact trivial | exact rfl | refine And.intro ?_ ?_ | ((conv => whnf); first | exact trivial | exact rfl | refine And.intro ?_ ?_ | omega))), ?_⟩
    conv => whnf
    refine call_step (netNo_t bs ls h) rfl rfl ?_
    conv => whnf
    refine ⟨(by repeat' (first | exact trivial | exact rfl | refine And.intro ?_ ?_ | ((conv => whnf); first | exact trivial | exact rfl | refine And.intro ?_ ?_ | omega))), (by repeat' (first | exact trivial | exact rfl | refine And.intro ?_ ?_ | ((conv => whnf); first | exact trivial | exact rfl | refine And.intro ?_ ?_ | omega))), ?_⟩
    conv => whnf
    repeat' (first | exact trivial | exact rfl | refine And.intro ?_ ?_ | ((conv => whnf); first | exact trivial | exact rfl | refine And.intro ?_ ?_ | omega))

end Go.Proofs

/-
  Plain lemmas, part 13: a flow over the arcs of a system: what it brings to each place, and how a path changes it. Conditions: none; definitions and plain lemmas.
-/
namespace Go
namespace Proofs

def sumR : Nat → (Nat → Int) → Int
  | 0, _ => 0
  | k + 1, f => sumR k f + f k

def ind (p : Prop) [Decidable p] : Int := if p then 1 else 0

theorem ind_true {p : Prop} [Decidable p] (h : p) : ind p = 1 := if_pos h
theorem ind_false {p : Prop} [Decidable p] (h : ¬ p) : ind p = 0 := if_neg h

theorem sumR_congr {f g : Nat → Int} : ∀ {k : Nat}, (∀ v, v < k → f v = g v) → sumR k f = sumR k g
  | 0, _ => rfl
  | k + 1, h => by
    simp only [sumR]
    rw [sumR_congr fun v hv => h v (by omega), h k (by omega)]

theorem sumR_add (f g : Nat → Int) : ∀ k, sumR k (fun v => f v + g v) = sumR k f + sumR k g
  | 0 => rfl
  | k + 1 => by simp only [sumR, sumR_add f g k]; omega

theorem sumR_mul (c : Int) (f : Nat → Int) : ∀ k, sumR k (fun v => c * f v) = c * sumR k f
  | 0 => by simp [sumR]
  | k + 1 => by simp only [sumR, sumR_mul c f k, Int.mul_add]

theorem sumR_zero : ∀ k, sumR k (fun _ => 0) = 0
  | 0 => rfl
  | k + 1 => by simp only [sumR, sumR_zero k]; rfl

theorem sumR_le {f g : Nat → Int} : ∀ {k : Nat}, (∀ v, v < k → f v ≤ g v) → sumR k f ≤ sumR k g
  | 0, _ => Int.le_refl _
  | k + 1, h => by
    have h1 := sumR_le (k := k) fun v hv => h v (by omega)
    have h2 := h k (by omega)
    simp only [sumR]; omega

theorem sumR_ind (q : Nat → Int) {t : Nat} : ∀ {k : Nat}, t < k → sumR k (fun v => ind (t = v) * q v) = q t
  | 0, h => by omega
  | k + 1, h => by
    simp only [sumR]
    by_cases hk : t = k
    · subst hk
      rw [sumR_congr (g := fun _ => 0) fun v hv => by rw [ind_false (by omega), Int.zero_mul], sumR_zero, ind_true rfl]; omega
    · rw [sumR_ind q (by omega), ind_false hk]; omega

/-- A sum where one term changes. -/
theorem sumR_set {f : Nat → Int} {i : Nat} {x : Int} : ∀ {k : Nat}, i < k → sumR k (fun v => if v = i then x else f v) = sumR k f - f i + x
  | 0, h => by omega
  | k + 1, h => by
    simp only [sumR]
    by_cases hk : i = k
    · subst hk
      rw [sumR_congr (g := f) fun v hv => by rw [if_neg (by omega)], if_pos rfl]; omega
    · rw [sumR_set (by omega), if_neg (fun h => hk h.symm)]; omega

theorem sumR_nonneg {f : Nat → Int} : ∀ {k : Nat}, (∀ v, v < k → 0 ≤ f v) → 0 ≤ sumR k f
  | 0, _ => Int.le_refl _
  | k + 1, h => by
    have h1 := sumR_nonneg (k := k) fun v hv => h v (by omega)
    have h2 := h k (by omega)
    simp only [sumR]; omega

theorem sumR_pos {f : Nat → Int} {i : Nat} : ∀ {k : Nat}, (∀ v, v < k → 0 ≤ f v) → i < k → f i ≤ sumR k f
  | 0, _, h => by omega
  | k + 1, h, hi => by
    have h1 := sumR_nonneg (k := k) fun v hv => h v (by omega)
    have h2 := h k (by omega)
    simp only [sumR]
    by_cases hk : i = k
    · subst hk; omega
    · have := sumR_pos (k := k) (fun v hv => h v (by omega)) (show i < k by omega); omega

theorem sumR_zero_all {f : Nat → Int} : ∀ {k : Nat}, (∀ v, v < k → 0 ≤ f v) → sumR k f = 0 → ∀ v, v < k → f v = 0 := fun {k} h hs v hv => by
  have := sumR_pos h hv
  have := h v hv
  omega

/-- What a flow brings to a place. -/
def netV (n : Nat) : List Lnk → List Int → Nat → Int
  | l :: r, x :: s, v => x * (ind (plc n l.t = v) - ind (plc n l.f = v)) + netV n r s v
  | [], _, _ => 0
  | _ :: _, [], _ => 0

def costV : List Lnk → List Int → Int
  | l :: r, x :: s => x * l.m + costV r s
  | [], _ => 0
  | _ :: _, [] => 0

theorem netV_zero (n v : Nat) : ∀ (arcs : List Lnk) (k : Nat), netV n arcs (List.replicate k 0) v = 0
  | [], k => by cases k <;> rfl
  | l :: r, 0 => rfl
  | l :: r, k + 1 => by simp only [List.replicate_succ, netV, netV_zero n v r k]; omega

theorem netV_set (n v : Nat) (d : Int) : ∀ {arcs : List Lnk} {flow : List Int} {i : Nat} {l : Lnk}, arcs[i]? = some l → i < flow.length →
    netV n arcs (flow.set i (flow.getD i 0 + d)) v = netV n arcs flow v + d * (ind (plc n l.t = v) - ind (plc n l.f = v))
  | [], _, _, _, h, _ => by simp at h
  | a :: r, [], _, _, _, h => by simp at h
  | a :: r, x :: s, 0, l, h, _ => by
    simp at h
    subst h
    simp only [List.set_cons_zero, netV, List.getD_cons_zero, Int.add_mul]
    omega
  | a :: r, x :: s, i + 1, l, h, hi => by
    have := netV_set n v d (arcs := r) (flow := s) (i := i) (l := l) (by simpa using h) (by simpa using hi)
    simp only [List.set_cons_succ, netV, List.getD_cons_succ, this]
    omega

/-- Prices: what a flow carries, over the places and over the arcs. -/
theorem netV_dot (n : Nat) (q : Nat → Int) : ∀ {arcs : List Lnk} {flow : List Int}, (∀ l ∈ arcs, ArcOK n l) → arcs.length = flow.length → (∀ i l, arcs[i]? = some l → 0 < flow.getD i 0 → q (plc n l.t) - q (plc n l.f) = l.m) → (∀ i, 0 ≤ flow.getD i 0) →
    sumR (n + 1) (fun v => netV n arcs flow v * q v) = costV arcs flow
  | [], flow, _, _, _, _ => by
    rw [sumR_congr (g := fun _ => 0) fun v _ => by simp [netV], sumR_zero]
    cases flow <;> rfl
  | l :: r, [], _, h, _, _ => by simp at h
  | l :: r, x :: s, hok, hl, hc, hp => by
    have ih := netV_dot n q (arcs := r) (flow := s) (fun l hl => hok l (List.mem_cons_of_mem _ hl)) (by simpa using hl) (fun i l h1 h2 => hc (i + 1) l (by simpa using h1) (by simpa using h2)) (fun i => by have := hp (i + 1); simpa using this)
    obtain ⟨o1, o2, o3⟩ := hok l (List.mem_cons_self ..)
    have t1 := plc_le o1.2
    have t2 := plc_le o2.2
    have e1 : sumR (n + 1) (fun v => netV n (l :: r) (x :: s) v * q v) = sumR (n + 1) (fun v => x * (ind (plc n l.t = v) * q v) + ((-x) * (ind (plc n l.f = v) * q v) + netV n r s v * q v)) := by
      refine sumR_congr fun v _ => ?_
      simp only [netV, Int.add_mul, Int.mul_sub, Int.sub_mul, Int.neg_mul, Int.mul_assoc]
      omega
    rw [e1, sumR_add, sumR_add, sumR_mul, sumR_mul, ih, sumR_ind q (by omega), sumR_ind q (by omega)]
    simp only [costV]
    have h0 := hp 0
    rw [List.getD_cons_zero] at h0
    rcases Int.lt_or_eq_of_le h0 with hx | hx
    · have := hc 0 l rfl (by simpa using hx)
      rw [← this, Int.mul_sub, Int.neg_mul]; omega
    · rw [← hx]; simp

/-- A flow over arcs never costs less than the prices of what it brings, for prices that no arc contradicts. -/
theorem netV_le (n : Nat) (q : Nat → Int) : ∀ {arcs : List Lnk} {flow : List Int}, (∀ l ∈ arcs, ArcOK n l) → arcs.length = flow.length → PotL n q arcs → (∀ i, 0 ≤ flow.getD i 0) →
    sumR (n + 1) (fun v => netV n arcs flow v * q v) ≤ costV arcs flow
  | [], flow, _, _, _, _ => by
    rw [sumR_congr (g := fun _ => 0) fun v _ => by simp [netV], sumR_zero]
    cases flow <;> exact Int.le_refl _
  | l :: r, [], _, h, _, _ => by simp at h
  | l :: r, x :: s, hok, hl, hc, hp => by
    have ih := netV_le n q (arcs := r) (flow := s) (fun l hl => hok l (List.mem_cons_of_mem _ hl)) (by simpa using hl) (fun l hl => hc l (List.mem_cons_of_mem _ hl)) (fun i => by have := hp (i + 1); simpa using this)
    obtain ⟨o1, o2, o3⟩ := hok l (List.mem_cons_self ..)
    have t1 := plc_le o1.2
    have t2 := plc_le o2.2
    have e1 : sumR (n + 1) (fun v => netV n (l :: r) (x :: s) v * q v) = sumR (n + 1) (fun v => x * (ind (plc n l.t = v) * q v) + ((-x) * (ind (plc n l.f = v) * q v) + netV n r s v * q v)) := by
      refine sumR_congr fun v _ => ?_
      simp only [netV, Int.add_mul, Int.mul_sub, Int.sub_mul, Int.neg_mul, Int.mul_assoc]
      omega
    rw [e1, sumR_add, sumR_add, sumR_mul, sumR_mul, sumR_ind q (by omega), sumR_ind q (by omega)]
    simp only [costV]
    have h0 := hp 0
    rw [List.getD_cons_zero] at h0
    have hq : q (plc n l.t) ≤ q (plc n l.f) + l.m := hc l (List.mem_cons_self ..)
    have := Int.mul_le_mul_of_nonneg_left (show q (plc n l.t) - q (plc n l.f) ≤ l.m by omega) h0
    rw [Int.mul_sub] at this
    rw [Int.neg_mul]
    omega

/-! ### A path -/

theorem amtF_le (flow : List Int) : ∀ (ks : List Nat) (a : Int), amtF flow ks a ≤ a ∧ ∀ k ∈ ks, k % 2 = 1 → amtF flow ks a ≤ flow.getD (k / 2) 0
  | [], a => ⟨Int.le_refl _, fun k hk => by cases hk⟩
  | k :: r, a => by
    simp only [amtF]
    by_cases hk : k % 2 = 1
    · rw [if_pos hk]
      obtain ⟨h1, h2⟩ := amtF_le flow r (min a (flow.getD (k / 2) 0))
      refine ⟨by omega, fun k' hk' ho => ?_⟩
      rcases List.mem_cons.1 hk' with rfl | hk'
      · omega
      · exact h2 k' hk' ho
    · rw [if_neg hk]
      obtain ⟨h1, h2⟩ := amtF_le flow r a
      refine ⟨h1, fun k' hk' ho => ?_⟩
      rcases List.mem_cons.1 hk' with rfl | hk'
      · exact absurd ho hk
      · exact h2 k' hk' ho

theorem amtF_pos (flow : List Int) : ∀ (ks : List Nat) (a : Int), 1 ≤ a → (∀ k ∈ ks, k % 2 = 1 → 1 ≤ flow.getD (k / 2) 0) → 1 ≤ amtF flow ks a
  | [], a, h, _ => h
  | k :: r, a, h, hf => by
    simp only [amtF]
    refine amtF_pos flow r _ ?_ fun k' hk' => hf k' (List.mem_cons_of_mem _ hk')
    split
    · rename_i hk
      have := hf k (List.mem_cons_self ..) hk
      omega
    · exact h

def kSum (n : Nat) (arcs : List Lnk) (v : Nat) : List Nat → Int
  | [] => 0
  | k :: r => (ind ((keyE n arcs k).b = v) - ind ((keyE n arcs k).a = v)) + kSum n arcs v r

theorem kSum_path {n : Nat} {arcs : List Lnk} {E : List Edg} {T : Tr} {ts : Nat → Nat} {src v : Nat} : ∀ {ks : List Nat} {p : Nat}, StepP n arcs E T ts src ks p → kSum n arcs v ks = ind (p = v) - ind (src = v)
  | [], p, h => by
    have h : p = src := h
    rw [h]; simp [kSum]
  | k :: r, p, h => by
    obtain ⟨_, _, _, hb, _, _, _, hr⟩ := h
    simp only [kSum]
    rw [kSum_path hr, hb]
    omega

theorem addF_some {n : Nat} {arcs : List Lnk} {rev : Nat → Bool} {a S : Int} (ha : 0 ≤ a) (hS : S + a ≤ 4611686018427387904) : ∀ {ks : List Nat} {flow : List Int}, flow.length = arcs.length → (ks.map fun k => k / 2).Nodup → (∀ k ∈ ks, keyE n arcs k ∈ edgs n rev 0 arcs ∧ (keyE n arcs k).k = (k : Int)) →
    (∀ i, 0 ≤ flow.getD i 0 ∧ flow.getD i 0 ≤ S) → (∀ k ∈ ks, k % 2 = 1 → a ≤ flow.getD (k / 2) 0) →
    ∃ flow', addF a ks flow = some flow' ∧ flow'.length = flow.length ∧ (∀ i, (∀ k ∈ ks, k / 2 ≠ i) → flow'.getD i 0 = flow.getD i 0) ∧ (∀ k ∈ ks, flow'.getD (k / 2) 0 = flow.getD (k / 2) 0 + a * (1 - 2 * ((k % 2 : Nat) : Int))) ∧
      ∀ v, netV n arcs flow' v = netV n arcs flow v + a * kSum n arcs v ks
  | [], flow, _, _, _, _, _ => ⟨flow, rfl, rfl, fun i _ => rfl, fun k hk => (by cases hk), fun v => by simp [kSum]⟩
  | k :: r, flow, hl, hn, hk, hb, ho => by
    rw [List.map_cons, List.nodup_cons] at hn
    obtain ⟨hn1, hn2⟩ := hn
    obtain ⟨he, hkk⟩ := hk k (List.mem_cons_self ..)
    obtain ⟨_, _, l, hl0, hcase⟩ := key_befF he hkk
    have hkl : k / 2 < flow.length := by rw [hl]; exact (List.getElem?_eq_some_iff.1 hl0).1
    have hbk := hb (k / 2)
    obtain ⟨d, hd⟩ : ∃ d, d = a * (1 - 2 * ((k % 2 : Nat) : Int)) := ⟨_, rfl⟩
    have hdv : (k % 2 = 0 ∧ d = a) ∨ (k % 2 = 1 ∧ d = -a) := by
      rcases hcase with h | h
      · exact .inl ⟨h.1, by rw [hd, h.1]; simp⟩
      · exact .inr ⟨h.1, by rw [hd, h.1]; simp⟩
    have hx : 0 ≤ flow.getD (k / 2) 0 + d ∧ flow.getD (k / 2) 0 + d ≤ S + a := by
      rcases hdv with ⟨h1, h2⟩ | ⟨h1, h2⟩
      · omega
      · have := ho k (List.mem_cons_self ..) h1
        omega
    have hne : ∀ k' ∈ r, k' / 2 ≠ k / 2 := fun k' hk' he => hn1 (by rw [← he]; exact List.mem_map_of_mem hk')
    have hget : ∀ i, (flow.set (k / 2) (flow.getD (k / 2) 0 + d)).getD i 0 = if i = k / 2 then flow.getD (k / 2) 0 + d else flow.getD i 0 := fun i => getD_set hkl
    -- the values may rise above S at one place that the rest does not touch: take the rest on a list cut there
    have key : ∀ {ks : List Nat} {f : List Int}, f.length = arcs.length → (ks.map fun k => k / 2).Nodup → (∀ k ∈ ks, keyE n arcs k ∈ edgs n rev 0 arcs ∧ (keyE n arcs k).k = (k : Int)) → (∀ k ∈ ks, 0 ≤ f.getD (k / 2) 0 ∧ f.getD (k / 2) 0 ≤ S) →
        (∀ k ∈ ks, k % 2 = 1 → a ≤ f.getD (k / 2) 0) →
        ∃ f', addF a ks f = some f' ∧ f'.length = f.length ∧ (∀ i, (∀ k ∈ ks, k / 2 ≠ i) → f'.getD i 0 = f.getD i 0) ∧ (∀ k ∈ ks, f'.getD (k / 2) 0 = f.getD (k / 2) 0 + a * (1 - 2 * ((k % 2 : Nat) : Int))) ∧
          ∀ v, netV n arcs f' v = netV n arcs f v + a * kSum n arcs v ks := by
      intro ks
      induction ks with
      | nil => intro f _ _ _ _ _; exact ⟨f, rfl, rfl, fun i _ => rfl, fun k hk => (by cases hk), fun v => by simp [kSum]⟩
      | cons k r ih =>
        intro f hl hn hk hb ho
        rw [List.map_cons, List.nodup_cons] at hn
        obtain ⟨hn1, hn2⟩ := hn
        obtain ⟨he, hkk⟩ := hk k (List.mem_cons_self ..)
        obtain ⟨_, _, l, hl0, hcase⟩ := key_befF he hkk
        have hkl : k / 2 < f.length := by rw [hl]; exact (List.getElem?_eq_some_iff.1 hl0).1
        have hbk := hb k (List.mem_cons_self ..)
        obtain ⟨d, hd⟩ : ∃ d, d = a * (1 - 2 * ((k % 2 : Nat) : Int)) := ⟨_, rfl⟩
        have hdv : (k % 2 = 0 ∧ d = a) ∨ (k % 2 = 1 ∧ d = -a) := by
          rcases hcase with h | h
          · exact .inl ⟨h.1, by rw [hd, h.1]; simp⟩
          · exact .inr ⟨h.1, by rw [hd, h.1]; simp⟩
        have hx : 0 ≤ f.getD (k / 2) 0 + d ∧ f.getD (k / 2) 0 + d ≤ S + a := by
          rcases hdv with ⟨h1, h2⟩ | ⟨h1, h2⟩
          · omega
          · have := ho k (List.mem_cons_self ..) h1
            omega
        have hne : ∀ k' ∈ r, k' / 2 ≠ k / 2 := fun k' hk' he => hn1 (by rw [← he]; exact List.mem_map_of_mem hk')
        have hget : ∀ i, (f.set (k / 2) (f.getD (k / 2) 0 + d)).getD i 0 = if i = k / 2 then f.getD (k / 2) 0 + d else f.getD i 0 := fun i => getD_set hkl
        obtain ⟨f', g1, g2, g3, g4, g5⟩ := ih (f := f.set (k / 2) (f.getD (k / 2) 0 + d)) (by simpa using hl) hn2 (fun k' hk' => hk k' (List.mem_cons_of_mem _ hk')) (fun k' hk' => by rw [hget, if_neg (hne k' hk')]; exact hb k' (List.mem_cons_of_mem _ hk'))
          (fun k' hk' h1 => by rw [hget, if_neg (hne k' hk')]; exact ho k' (List.mem_cons_of_mem _ hk') h1)
        refine ⟨f', ?_, by rw [g2]; simp, fun i hi => ?_, fun k' hk' => ?_, fun v => ?_⟩
        · unfold addF
          simp only [← hd]
          rw [if_pos (by rw [Bool.and_eq_true, inI_iff, inI_iff]; rcases hdv with h | h <;> omega)]
          exact g1
        · rw [g3 i fun k' hk' => hi k' (List.mem_cons_of_mem _ hk'), hget, if_neg (fun he => hi k (List.mem_cons_self ..) he.symm)]
        · rcases List.mem_cons.1 hk' with rfl | hk'
          · rw [g3 _ fun k'' hk'' => hne k'' hk'', hget, if_pos rfl, hd]
          · rw [g4 k' hk', hget, if_neg (hne k' hk')]
        · rw [g5, netV_set n v d hl0 hkl]
          simp only [kSum]
          rw [Int.mul_add, ← Int.add_assoc]
          congr 2
          rcases hcase with ⟨h1, h2, h3, _⟩ | ⟨h1, _, h2, h3, _⟩
          · rw [h2, h3]
            rcases hdv with h | h
            · rw [h.2]
            · omega
          · rw [h2, h3]
            rcases hdv with h | h
            · omega
            · rw [h.2, Int.neg_mul, Int.mul_sub, Int.mul_sub]; omega
    exact key hl (by rw [List.map_cons, List.nodup_cons]; exact ⟨hn1, hn2⟩) hk (fun k _ => hb (k / 2)) ho

end Proofs
end Go

