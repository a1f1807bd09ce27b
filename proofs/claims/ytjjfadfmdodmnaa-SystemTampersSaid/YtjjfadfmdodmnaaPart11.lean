/-
  A part of the proof that a law of dryweightlaw03 answers true: lemmas of a symbolic walk, plain functions, or contracts of the functions walked (W8, W9). Conditions: none.
-/
import Derived.Test.YtjjfadfmdodmnaaPart10
set_option maxRecDepth 100000
set_option linter.unusedVariables false
set_option linter.unusedSimpArgs false
namespace Go.Proofs
open Go.Sx

theorem cloneSpan_t (xs : List (Int × Int)) (hb : xs.length ≤ 1000000) : Triple Try.prog 122 [.c (.s 0 0 xs.length 2)] [(0, false, .arr (aSpan xs))] 1 (.c (.s 1 0 xs.length 2)) [(1, true, .arr (aSpan xs))] := by
  refine triple_of tB_ok Try.func122 rfl Try.call122 rfl ?_
  intro ρ w hH
  conv => whnf
  have go : aSpan (List.take 0 [] ++ List.take xs.length (List.drop 0 xs)) = aSpan xs := by
    simp
  refine ⟨fun h0 => ?_, fun h0 => ?_⟩
  · conv => whnf
    refine ⟨?_, ?_⟩
    · conv => whnf
      repeat' (first | exact trivial | exact rfl | refine And.intro ?_ ?_ | ((conv => whnf); first | exact trivial | exact rfl | refine And.intro ?_ ?_ | omega))
      all_goals first | exact h0 | exact List.length_eq_zero_iff.1 h0
    · conv => whnf
      refine bs_step tB_ok (aSpan []) rfl rfl ?_
      conv => whnf
      refine ⟨⟨rfl, trivial⟩, ?_⟩
      conv => whnf
      refine app_step tB_ok (aSpan []) xs (fun _ => rfl) rfl rfl rfl rfl ?_
      conv => whnf
      refine ⟨⟨rfl, rfl, Nat.le_refl _, by rw [Nat.zero_add]; exact Nat.le_refl _, by show (0 + xs.length) * 17 ≤ _; omega⟩, ?_⟩
      conv => whnf
      repeat' (first | exact trivial | exact rfl | refine And.intro ?_ ?_ | ((conv => whnf); first | exact trivial | exact rfl | refine And.intro ?_ ?_ | omega))
      all_goals first | exact go | simp
  · conv => whnf
    refine bs_step tB_ok (aSpan []) rfl rfl ?_
    conv => whnf
    refine ⟨⟨rfl, trivial⟩, ?_⟩
    conv => whnf
    refine app_step tB_ok (aSpan []) xs (fun _ => rfl) rfl rfl rfl rfl ?_
    conv => whnf
    refine ⟨⟨rfl, rfl, Nat.le_refl _, by rw [Nat.zero_add]; exact Nat.le_refl _, by show (0 + xs.length) * 17 ≤ _; omega⟩, ?_⟩
    conv => whnf
    repeat' (first | exact trivial | exact rfl | refine And.intro ?_ ?_ | ((conv => whnf); first | exact trivial | exact rfl | refine And.intro ?_ ?_ | omega))
    all_goals first | exact go | simp
theorem cloneLink_t (xs : List Lnk) (hb : xs.length ≤ 1000000) : Triple Try.prog 123 [.c (.s 0 0 xs.length 4)] [(0, false, .arr (aLink xs))] 1 (.c (.s 1 0 xs.length 4)) [(1, true, .arr (aLink xs))] := by
  refine triple_of tB_ok Try.func123 rfl Try.call123 rfl ?_
  intro ρ w hH
  conv => whnf
  have go : aLink (List.take 0 [] ++ List.take xs.length (List.drop 0 xs)) = aLink xs := by
    simp
  refine ⟨fun h0 => ?_, fun h0 => ?_⟩
  · conv => whnf
    refine ⟨?_, ?_⟩
    · conv => whnf
      repeat' (first | exact trivial | exact rfl | refine And.intro ?_ ?_ | ((conv => whnf); first | exact trivial | exact rfl | refine And.intro ?_ ?_ | omega))
      all_goals first | exact h0 | exact List.length_eq_zero_iff.1 h0
    · conv => whnf
      refine bs_step tB_ok (aLink []) rfl rfl ?_
      conv => whnf
      refine ⟨⟨rfl, trivial⟩, ?_⟩
      conv => whnf
      refine app_step tB_ok (aLink []) xs (fun _ => rfl) rfl rfl rfl rfl ?_
      conv => whnf
      refine ⟨⟨rfl, rfl, Nat.le_refl _, by rw [Nat.zero_add]; exact Nat.le_refl _, by show (0 + xs.length) * 33 ≤ _; omega⟩, ?_⟩
      conv => whnf
      repeat' (first | exact trivial | exact rfl | refine And.intro ?_ ?_ | ((conv => whnf); first | exact trivial | exact rfl | refine And.intro ?_ ?_ | omega))
      all_goals first | exact go | simp
  · conv => whnf
    refine bs_step tB_ok (aLink []) rfl rfl ?_
    conv => whnf
    refine ⟨⟨rfl, trivial⟩, ?_⟩
    conv => whnf
    refine app_step tB_ok (aLink []) xs (fun _ => rfl) rfl rfl rfl rfl ?_
    conv => whnf
    refine ⟨⟨rfl, rfl, Nat.le_refl _, by rw [Nat.zero_add]; exact Nat.le_refl _, by show (0 + xs.length) * 33 ≤ _; omega⟩, ?_⟩
    conv => whnf
    repeat' (first | exact trivial | exact rfl | refine And.intro ?_ ?_ | ((conv => whnf); first | exact trivial | exact rfl | refine And.intro ?_ ?_ | omega))
    all_goals first | exact go | simp
theorem cloneInt_t (xs : List Int) (hb : xs.length ≤ 1000000) : Triple Try.prog 118 [.c (.s 0 0 xs.length 1)] [(0, false, .arr (aInt xs))] 1 (.c (.s 1 0 xs.length 1)) [(1, true, .arr (aInt xs))] := by
  refine triple_of tB_ok Try.func118 rfl Try.call118 rfl ?_
  intro ρ w hH
  conv => whnf
  have go : aInt (List.take 0 [] ++ List.take xs.length (List.drop 0 xs)) = aInt xs := by
    simp
  refine ⟨fun h0 => ?_, fun h0 => ?_⟩
  · conv => whnf
    refine ⟨?_, ?_⟩
    · conv => whnf
      repeat' (first | exact trivial | exact rfl | refine And.intro ?_ ?_ | ((conv => whnf); first | exact trivial | exact rfl | refine And.intro ?_ ?_ | omega))
      all_goals first | exact h0 | exact List.length_eq_zero_iff.1 h0
    · conv => whnf
      refine bs_step tB_ok (aInt []) rfl rfl ?_
      conv => whnf
      refine ⟨⟨rfl, trivial⟩, ?_⟩
      conv => whnf
      refine app_step tB_ok (aInt []) xs (fun _ => rfl) rfl rfl rfl rfl ?_
      conv => whnf
      refine ⟨⟨rfl, rfl, Nat.le_refl _, by rw [Nat.zero_add]; exact Nat.le_refl _, by show (0 + xs.length) * 9 ≤ _; omega⟩, ?_⟩
      conv => whnf
      repeat' (first | exact trivial | exact rfl | refine And.intro ?_ ?_ | ((conv => whnf); first | exact trivial | exact rfl | refine And.intro ?_ ?_ | omega))
      all_goals first | exact go | simp
  · conv => whnf
    refine bs_step tB_ok (aInt []) rfl rfl ?_
    conv => whnf
    refine ⟨⟨rfl, trivial⟩, ?_⟩
    conv => whnf
    refine app_step tB_ok (aInt []) xs (fun _ => rfl) rfl rfl rfl rfl ?_
    conv => whnf
    refine ⟨⟨rfl, rfl, Nat.le_refl _, by rw [Nat.zero_add]; exact Nat.le_refl _, by show (0 + xs.length) * 9 ≤ _; omega⟩, ?_⟩
    conv => whnf
    repeat' (first | exact trivial | exact rfl | refine And.intro ?_ ?_ | ((conv => whnf); first | exact trivial | exact rfl | refine And.intro ?_ ?_ | omega))
    all_goals first | exact go | simp

end Go.Proofs

namespace Go.Proofs
open Go.Sx

/-- What a checked system is. -/
structure SysOK (bs : List (Int × Int)) (ls : List Lnk) : Prop where
  nb : bs.length ≤ 240
  nl : ls.length ≤ 1200
  box : ∀ b ∈ bs, b.1 ≤ b.2 ∧ -16777216 ≤ b.1 ∧ b.2 ≤ 16777216
  lnk : ∀ l ∈ ls, properF l bs.length = true

theorem checkF_ok {bs : List (Int × Int)} {ls : List Lnk} : checkF bs ls = 0 ↔ SysOK bs ls := by
  unfold checkF
  constructor
  · intro h
    by_cases h1 : (decide (240 < bs.length) || decide (1200 < ls.length)) = true
    · rw [if_pos h1] at h; simp at h
    rw [if_neg h1] at h
    by_cases h2 : (!bs.all boxOKF) = true
    · rw [if_pos h2] at h; simp at h
    rw [if_neg h2] at h
    by_cases h3 : (!ls.all (fun l => properF l bs.length)) = true
    · rw [if_pos h3] at h; simp at h
    simp at h1 h2 h3
    refine ⟨by omega, by omega, fun b hb => ?_, fun l hl => h3 l hl⟩
    have := h2 b.1 b.2 hb
    simp [boxOKF] at this
    omega
  · rintro ⟨h1, h2, h3, h4⟩
    rw [if_neg (by simp; omega), if_neg, if_neg]
    · simp; exact fun l hl => h4 l hl
    · simp
      intro a b hab
      have := h3 (a, b) hab
      simp [boxOKF]
      simp at this
      omega

theorem SysOK.boxB {bs : List (Int × Int)} {ls : List Lnk} (h : SysOK bs ls) : BoxB bs := fun b hb => by have := h.box b hb; omega

theorem properF_iff {l : Lnk} {n : Int} : properF l n = true ↔ l.f ≠ l.t ∧ (-1 ≤ l.f ∧ l.f ≤ n - 1) ∧ (-1 ≤ l.t ∧ l.t ≤ n - 1) ∧ (-33554432 ≤ l.m ∧ l.m ≤ 33554432) ∧ 0 ≤ l.i ∧ l.i ≤ 1099511627776 := by
  simp [properF, withinF]

theorem boxLinks_mem {l : Lnk} : ∀ {bs : List (Int × Int)} {v : Nat}, l ∈ boxLinks v bs → ∃ (i : Nat) (b : Int × Int), bs[i]? = some b ∧ (l = ⟨-1, (v + i : Nat), b.2, 0⟩ ∨ l = ⟨(v + i : Nat), -1, -b.1, 0⟩)
  | [], _, h => by cases h
  | b :: r, v, h => by
    simp only [boxLinks, List.mem_cons] at h
    rcases h with h | h | h
    · exact ⟨0, b, by simp, .inl (by simpa using h)⟩
    · exact ⟨0, b, by simp, .inr (by simpa using h)⟩
    · obtain ⟨i, b', hi, h⟩ := boxLinks_mem h
      exact ⟨i + 1, b', by simpa using hi, by rw [show v + (i + 1) = v + 1 + i from by omega]; exact h⟩

theorem allF_ok {bs : List (Int × Int)} {ls : List Lnk} (h : SysOK bs ls) : ∀ l ∈ allF bs ls, ArcOK bs.length l := by
  intro l hl
  rcases List.mem_append.1 hl with hl | hl
  · obtain ⟨i, b, hi, h1 | h1⟩ := boxLinks_mem hl
    all_goals
      obtain ⟨hlt, rfl⟩ := List.getElem?_eq_some_iff.1 hi
      have := h.box _ (List.getElem_mem hlt)
      subst h1
      refine ⟨?_, ?_, ?_⟩ <;> simp only <;> omega
  · have := properF_iff.1 (h.lnk l hl)
    refine ⟨?_, ?_, ?_⟩ <;> omega

theorem graphF_ok {bs : List (Int × Int)} {ls : List Lnk} (h : SysOK bs ls) (k : Int) : ∀ l ∈ graphF bs ls k, ArcOK bs.length l := fun l hl =>
  allF_ok h l ((List.mem_filter.1 hl).1)

theorem graphF_len {bs : List (Int × Int)} {ls : List Lnk} (h : SysOK bs ls) (k : Int) : (graphF bs ls k).length ≤ 1680 := by
  unfold graphF
  refine Nat.le_trans (List.length_filter_le _ _) ?_
  rw [allF, List.length_append, boxLinks_length]
  have := h.nb
  have := h.nl
  omega

/-- A system in which no cycle is found. -/
def Calm (bs : List (Int × Int)) (ls : List Lnk) (k : Int) : Prop := (shortF bs.length noRev (graphF bs ls k) bs.length).2 = -1

theorem clashNone_t (n : Nat) (arcs : List Lnk) (hn : n ≤ 1000) (hl : arcs.length ≤ 10000) (hok : ∀ l ∈ arcs, ArcOK n l) (h : (shortF n noRev arcs n).2 = -1) :
    Triple Try.prog 96 [.c (.p 0 0 0 0)] (graphH n arcs) 2 (.tup [.inl (.v (.slice none 0 0)), .inl (.b false)]) [] := by
  refine triple_of tB_ok Try.func96 rfl Try.call96 rfl ?_
  intro ρ w hH
  conv => whnf
  refine call_step (plain_t n arcs n hn hl hok (Nat.le_refl _)) rfl rfl ?_
  conv => whnf
  refine ⟨(by repeat' (first | exact trivial | exact rfl | refine And.intro ?_ ?_ | ((conv => whnf); first | exact trivial | exact rfl | refine And.intro ?_ ?_ | omega))), (by repeat' (first | exact trivial | exact rfl | refine And.intro ?_ ?_ | ((conv => whnf); first | exact trivial | exact rfl | refine And.intro ?_ ?_ | omega))), ?_⟩
  conv => whnf
  rw [h]
  refine ⟨fun hc => ?_, fun hc => ?_⟩
  · conv => whnf
    repeat' (first | exact trivial | exact rfl | refine And.intro ?_ ?_ | ((conv => whnf); first | exact trivial | exact rfl | refine And.intro ?_ ?_ | omega))
  · simp at hc

theorem conflictNone_t (bs : List (Int × Int)) (ls : List Lnk) (hs : SysOK bs ls) (h : Calm bs ls 0) :
    Triple Try.prog 36 [sysA bs.length ls.length] (sysH bs ls) 2 (.tup [.inl (.v (.slice none 0 0)), .inl (.b false), .inl (.v (.int .i64 0))]) [] := by
  refine triple_of tB_ok Try.func36 rfl Try.call36 rfl ?_
  intro ρ w hH
  conv => whnf
  have hnb := hs.nb
  have hnl := hs.nl
  have hgl := graphF_len hs 0
  refine call_step (check_t bs ls (by omega) (by omega)) rfl rfl ?_
  conv => whnf
  refine ⟨(by repeat' (first | exact trivial | exact rfl | refine And.intro ?_ ?_ | ((conv => whnf); first | exact trivial | exact rfl | refine And.intro ?_ ?_ | omega))), (by repeat' (first | exact trivial | exact rfl | refine And.intro ?_ ?_ | ((conv => whnf); first | exact trivial | exact rfl | refine And.intro ?_ ?_ | omega))), ?_⟩
  conv => whnf
  rw [checkF_ok.2 hs]
  refine ⟨fun hc => ?_, fun hc => ?_⟩
  · simp at hc
  conv => whnf
  refine call_step (graphOf_t bs ls 0 (by omega) hs.boxB (by omega)) rfl rfl ?_
  conv => whnf
  refine ⟨(by repeat' (first | exact trivial | exact rfl | refine And.intro ?_ ?_ | ((conv => whnf); first | exact trivial | exact rfl | refine And.intro ?_ ?_ | omega))), (by repeat' (first | exact trivial | exact rfl | refine And.intro ?_ ?_ | ((conv => whnf); first | exact trivial | exact rfl | refine And.intro ?_ ?_ | omega))), ?_⟩
  conv => whnf
  refine call_step (clashNone_t bs.length (graphF bs ls 0) (by omega) (by omega) (graphF_ok hs 0) h) rfl rfl ?_
  conv => whnf
  refine ⟨(by repeat' (first | exact trivial | exact rfl | refine And.intro ?_ ?_ | ((conv => whnf); first | exact trivial | exact rfl | refine And.intro ?_ ?_ | omega))), (by repeat' (first | exact trivial | exact rfl | refine And.intro ?_ ?_ | ((conv => whnf); first | exact trivial | exact rfl | refine And.intro ?_ ?_ | omega))), ?_⟩
  conv => whnf
  repeat' (first | exact trivial | exact rfl | refine And.intro ?_ ?_ | ((conv => whnf); first | exact trivial | exact rfl | refine And.intro ?_ ?_ | omega))

abbrev netC (k m : Nat) (n l : Nat) : SO := .cells [.s k 0 n 2, .s m 0 l 4]
abbrev netH (bs : List (Int × Int)) (ls : List Lnk) : Heap := [(0, false, netC 1 2 bs.length ls.length), (1, false, .arr (aSpan bs)), (2, false, .arr (aLink ls))]

theorem newNone_t (bs : List (Int × Int)) (ls : List Lnk) (hs : SysOK bs ls) (h : Calm bs ls 0) :
    Triple Try.prog 64 [sysA bs.length ls.length] (sysH bs ls) 2 (.tup [.inl (.p 2 0 0 0), .inl (.v (.int .i64 0))])
      [(2, true, netC 3 4 bs.length ls.length), (3, true, .arr (aSpan bs)), (4, true, .arr (aLink ls))] := by
  refine triple_of tB_ok Try.func64 rfl Try.call64 rfl ?_
  intro ρ w hH
  conv => whnf
  have hnb := hs.nb
  have hnl := hs.nl
  refine call_step (conflictNone_t bs ls hs h) rfl rfl ?_
  conv => whnf
  refine ⟨(by repeat' (first | exact trivial | exact rfl | refine And.intro ?_ ?_ | ((conv => whnf); first | exact trivial | exact rfl | refine And.intro ?_ ?_ | omega))), (by repeat' (first | exact trivial | exact rfl | refine And.intro ?_ ?_ | ((conv => whnf); first | exact trivial | exact rfl | refine And.intro ?_ ?_ | omega))), ?_⟩
  conv => whnf
  refine ⟨fun hc => ?_, fun hc => ?_⟩
  · simp at hc
  conv => whnf
  refine call_step (cloneSpan_t bs (by omega)) rfl rfl ?_
  conv => whnf
  refine ⟨(by repeat' (first | exact trivial | exact rfl | refine And.intro ?_ ?_ | ((conv => whnf); first | exact trivial | exact rfl | refine And.intro ?_ ?_ | omega))), (by repeat' (first | exact trivial | exact rfl | refine And.intro ?_ ?_ | ((conv => whnf); first | exact trivial | exact rfl | refine And.intro ?_ ?_ | omega))), ?_⟩
  conv => whnf
  refine call_step (cloneLink_t ls (by omega)) rfl rfl ?_
  conv => whnf
  refine ⟨(by repeat' (first | exact trivial | exact rfl | refine And.intro ?_ ?_ | ((conv => whnf); first | exact trivial | exact rfl | refine And.intro ?_ ?_ | omega))), (by repeat' (first | exact trivial | exact rfl | refine And.intro ?_ ?_ | ((conv => whnf); first | exact trivial | exact rfl | refine And.intro ?_ ?_ | omega))), ?_⟩
  conv => whnf
  repeat' (first | exact trivial | exact rfl | refine And.intro ?_ ?_ | ((conv => whnf); first | exact trivial | exact rfl | refine And.intro ?_ ?_ | omega))

theorem isPlace_t (bs : List (Int × Int)) (ls : List Lnk) (p : Int) (hb : bs.length ≤ 1000000) : Triple Try.prog 79 [.c (.p 0 0 0 0), iv .i64 p] (netH bs ls) 3 (bv (withinF p (-1) (bs.length - 1))) [] := by
  refine triple_of tB_ok Try.func79 rfl Try.call79 rfl ?_
  intro ρ w hH
  conv => whnf
  refine ⟨_, wrapId ⟨by omega, by omega⟩, ?_⟩
  conv => whnf
  refine call_step (within_t p (-1) ((bs.length : Int) - 1)) rfl rfl ?_
  conv => whnf
  refine ⟨(by repeat' (first | exact trivial | exact rfl | refine And.intro ?_ ?_ | ((conv => whnf); first | exact trivial | exact rfl | refine And.intro ?_ ?_ | omega))), (by repeat' (first | exact trivial | exact rfl | refine And.intro ?_ ?_ | ((conv => whnf); first | exact trivial | exact rfl | refine And.intro ?_ ?_ | omega))), ?_⟩
  conv => whnf
  repeat' (first | exact trivial | exact rfl | refine And.intro ?_ ?_ | ((conv => whnf); first | exact trivial | exact rfl | refine And.intro ?_ ?_ | omega))

end Go.Proofs

