/-
  A part of the proof that a law of dryweightlaw03 answers true: lemmas of a symbolic walk, plain functions, or contracts of the functions walked (X3, Pm11, X6, X7, X8). Conditions: none.
-/
import Derived.Test.YtjjfadfmdodmnaaPart17
import Derived.Test.YtjjfadfmdodmnaaPart13
import Derived.Test.YtjjfadfmdodmnaaPart14
set_option maxRecDepth 100000
set_option linter.unusedVariables false
set_option linter.unusedSimpArgs false
namespace Go.Proofs
open Go.Sx

theorem greatest_t (bs : List (Int × Int)) (ls : List Lnk) (a b : Int) (hb1 : bs.length ≤ 1000) (hB : BoxB bs) (hl : ls.length ≤ 8000) (hok : ∀ l ∈ allF bs ls, ArcOK bs.length l) (ha : -1 ≤ a ∧ a < bs.length) (hb : -1 ≤ b ∧ b < bs.length) :
    Triple Try.prog 83 [sysA bs.length ls.length, iv .i64 a, iv .i64 b] (sysH bs ls) 2 (iv .i64 (greatF bs.length (allF bs ls) a b)) [] := by
  have hT := from_t bs ls a hb1 hB hl hok ha
  cases hfr : fromF bs.length (allF bs ls) a with
  | none =>
    rw [hfr] at hT
    have eG : greatF bs.length (allF bs ls) a b = farI := by unfold greatF; rw [hfr]
    rw [eG]
    refine triple_of tB_ok Try.func83 rfl Try.call83 rfl ?_
    intro ρ w hH
    conv => whnf
    refine call_step hT rfl rfl ?_
    conv => whnf
    refine ⟨(by repeat' (first | exact trivial | exact rfl | refine And.intro ?_ ?_ | ((conv => whnf); first | exact trivial | exact rfl | refine And.intro ?_ ?_ | omega))), (by repeat' (first | exact trivial | exact rfl | refine And.intro ?_ ?_ | ((conv => whnf); first | exact trivial | exact rfl | refine And.intro ?_ ?_ | omega))), ?_⟩
    conv => whnf
    refine ⟨fun hc => ?_, fun hc => ?_⟩
    · conv => whnf
      repeat' (first | exact trivial | exact rfl | refine And.intro ?_ ?_ | ((conv => whnf); first | exact trivial | exact rfl | refine And.intro ?_ ?_ | omega))
    · exact absurd hc (by simp)
  | some o =>
    rw [hfr] at hT
    have eG : greatF bs.length (allF bs ls) a b = o.getD (b + 1).toNat 0 := by unfold greatF; rw [hfr]
    have hol := fromF_len hok hfr
    have hi : (b + 1).toNat < o.length := by omega
    rw [eG]
    refine triple_of tB_ok Try.func83 rfl Try.call83 rfl ?_
    intro ρ w hH
    conv => whnf
    refine call_step hT rfl rfl ?_
    conv => whnf
    refine ⟨(by repeat' (first | exact trivial | exact rfl | refine And.intro ?_ ?_ | ((conv => whnf); first | exact trivial | exact rfl | refine And.intro ?_ ?_ | omega))), (by repeat' (first | exact trivial | exact rfl | refine And.intro ?_ ?_ | ((conv => whnf); first | exact trivial | exact rfl | refine And.intro ?_ ?_ | omega))), ?_⟩
    conv => whnf
    refine ⟨fun hc => ?_, fun hc => ?_⟩
    · exact absurd hc (by simp)
    conv => whnf
    refine ⟨b + 1, wrapId (z := b + 1) ⟨by omega, by omega⟩, ?_⟩
    conv => whnf
    refine ⟨(b + 1).toNat, by omega, (by show (b + 1).toNat < o.length; exact hi), hi, ?_⟩
    conv => whnf
    refine ⟨?_, trivial⟩
    show o[(b + 1).toNat] = o.getD (b + 1).toNat 0
    rw [getD_of hi]

theorem agrees_t (bs : List (Int × Int)) (ls : List Lnk) (hb1 : bs.length ≤ 1000) (hB : BoxB bs) (hl : ls.length ≤ 8000) (hok : ∀ l ∈ allF bs ls, ArcOK bs.length l) :
    Triple Try.prog 40 [sysA bs.length ls.length] (sysH bs ls) 2 (bv (fromF bs.length (allF bs ls) (-1)).isSome) [] := by
  refine triple_of tB_ok Try.func40 rfl Try.call40 rfl ?_
  intro ρ w hH
  conv => whnf
  refine call_step (from_t bs ls (-1) hb1 hB hl hok ⟨by omega, by omega⟩) rfl rfl ?_
  conv => whnf
  refine ⟨(by repeat' (first | exact trivial | exact rfl | refine And.intro ?_ ?_ | ((conv => whnf); first | exact trivial | exact rfl | refine And.intro ?_ ?_ | omega))), (by repeat' (first | exact trivial | exact rfl | refine And.intro ?_ ?_ | ((conv => whnf); first | exact trivial | exact rfl | refine And.intro ?_ ?_ | omega))), ?_⟩
  conv => whnf
  repeat' (first | exact trivial | exact rfl | refine And.intro ?_ ?_ | ((conv => whnf); first | exact trivial | exact rfl | refine And.intro ?_ ?_ | omega))

theorem allF_le {bs : List (Int × Int)} {ls : List Lnk} (hs : SysOK bs ls) : (allF bs ls).length ≤ 1680 := by
  have := allF_len bs ls
  have := hs.nb
  have := hs.nl
  omega

theorem refRange_t (bs : List (Int × Int)) (ls : List Lnk) (a b : Int) (hs : SysOK bs ls) (ha : -1 ≤ a ∧ a < bs.length) (hb : -1 ≤ b ∧ b < bs.length)
    (lo hi : Int) (hlo : lo = - greatF bs.length (allF bs ls) b a) (hhi : hi = greatF bs.length (allF bs ls) a b) :
    Triple Try.prog 22 [sysA bs.length ls.length, iv .i64 a, iv .i64 b] (sysH bs ls) 2 (.tup [.inr [.v (.int .i64 lo), .v (.int .i64 hi)], .inl (.v (.int .i64 0))]) [] := by
  refine triple_of tB_ok Try.func22 rfl Try.call22 rfl ?_
  intro ρ w hH
  conv => whnf
  have hnb := hs.nb
  have hnl := hs.nl
  have hal := allF_le hs
  have hpa : placeF bs.length a = true := by simp [placeF]; omega
  have hpb : placeF bs.length b = true := by simp [placeF]; omega
  have hgb := greatF_bd b a (by omega) (by omega) (allF_ok hs)
  refine call_step (refPlace_t bs ls a) rfl rfl ?_
  conv => whnf
  refine ⟨(by repeat' (first | exact trivial | exact rfl | refine And.intro ?_ ?_ | ((conv => whnf); first | exact trivial | exact rfl | refine And.intro ?_ ?_ | omega))), (by repeat' (first | exact trivial | exact rfl | refine And.intro ?_ ?_ | ((conv => whnf); first | exact trivial | exact rfl | refine And.intro ?_ ?_ | omega))), ?_⟩
  conv => whnf
  rw [hpa]
  refine ⟨fun hc => ?_, fun hc => ?_⟩
  · exact absurd hc (by simp)
  conv => whnf
  refine call_step (refPlace_t bs ls b) rfl rfl ?_
  conv => whnf
  refine ⟨(by repeat' (first | exact trivial | exact rfl | refine And.intro ?_ ?_ | ((conv => whnf); first | exact trivial | exact rfl | refine And.intro ?_ ?_ | omega))), (by repeat' (first | exact trivial | exact rfl | refine And.intro ?_ ?_ | ((conv => whnf); first | exact trivial | exact rfl | refine And.intro ?_ ?_ | omega))), ?_⟩
  conv => whnf
  rw [hpb]
  refine ⟨fun hc => ?_, fun hc => ?_⟩
  · exact absurd hc (by simp)
  conv => whnf
  refine call_step (greatest_t bs ls b a (by omega) hs.boxB (by omega) (allF_ok hs) hb ha) rfl rfl ?_
  conv => whnf
  refine ⟨(by repeat' (first | exact trivial | exact rfl | refine And.intro ?_ ?_ | ((conv => whnf); first | exact trivial | exact rfl | refine And.intro ?_ ?_ | omega))), (by repeat' (first | exact trivial | exact rfl | refine And.intro ?_ ?_ | ((conv => whnf); first | exact trivial | exact rfl | refine And.intro ?_ ?_ | omega))), ?_⟩
  conv => whnf
  refine ⟨_, wrapId ⟨by omega, by omega⟩, ?_⟩
  conv => whnf
  refine call_step (greatest_t bs ls a b (by omega) hs.boxB (by omega) (allF_ok hs) ha hb) rfl rfl ?_
  conv => whnf
  refine ⟨(by repeat' (first | exact trivial | exact rfl | refine And.intro ?_ ?_ | ((conv => whnf); first | exact trivial | exact rfl | refine And.intro ?_ ?_ | omega))), (by repeat' (first | exact trivial | exact rfl | refine And.intro ?_ ?_ | ((conv => whnf); first | exact trivial | exact rfl | refine And.intro ?_ ?_ | omega))), ?_⟩
  conv => whnf
  repeat' (first | exact trivial | exact rfl | refine And.intro ?_ ?_ | ((conv => whnf); first | exact trivial | exact rfl | refine And.intro ?_ ?_ | omega))

theorem refRangeErr_t (bs : List (Int × Int)) (ls : List Lnk) (a b : Int) (hp : placeF bs.length a = false ∨ placeF bs.length b = false) :
    Triple Try.prog 22 [sysA bs.length ls.length, iv .i64 a, iv .i64 b] (sysH bs ls) 2 (.tup [.inr [.v (.int .i64 0), .v (.int .i64 0)], .inl (.v (.int .i64 1))]) [] := by
  refine triple_of tB_ok Try.func22 rfl Try.call22 rfl ?_
  intro ρ w hH
  conv => whnf
  refine call_step (refPlace_t bs ls a) rfl rfl ?_
  conv => whnf
  refine ⟨(by repeat' (first | exact trivial | exact rfl | refine And.intro ?_ ?_ | ((conv => whnf); first | exact trivial | exact rfl | refine And.intro ?_ ?_ | omega))), (by repeat' (first | exact trivial | exact rfl | refine And.intro ?_ ?_ | ((conv => whnf); first | exact trivial | exact rfl | refine And.intro ?_ ?_ | omega))), ?_⟩
  conv => whnf
  refine ⟨fun hc => ?_, fun hc => ?_⟩
  · conv => whnf
    repeat' (first | exact trivial | exact rfl | refine And.intro ?_ ?_ | ((conv => whnf); first | exact trivial | exact rfl | refine And.intro ?_ ?_ | omega))
  conv => whnf
  refine call_step (refPlace_t bs ls b) rfl rfl ?_
  conv => whnf
  refine ⟨(by repeat' (first | exact trivial | exact rfl | refine And.intro ?_ ?_ | ((conv => whnf); first | exact trivial | exact rfl | refine And.intro ?_ ?_ | omega))), (by repeat' (first | exact trivial | exact rfl | refine And.intro ?_ ?_ | ((conv => whnf); first | exact trivial | exact rfl | refine And.intro ?_ ?_ | omega))), ?_⟩
  conv => whnf
  refine ⟨fun hc => ?_, fun hc => ?_⟩
  · conv => whnf
    repeat' (first | exact trivial | exact rfl | refine And.intro ?_ ?_ | ((conv => whnf); first | exact trivial | exact rfl | refine And.intro ?_ ?_ | omega))
  · simp at *
    simp_all

theorem refImplied_t (bs : List (Int × Int)) (ls : List Lnk) (l : Lnk) (hs : SysOK bs ls) (hp : properF l bs.length = true) :
    Triple Try.prog 26 [sysA bs.length ls.length, svL l] (sysH bs ls) 2 (.tup [.inl (.v (.bool (decide (greatF bs.length (allF bs ls) l.f l.t ≤ l.m)))), .inl (.v (.int .i64 0))]) [] := by
  refine triple_of tB_ok Try.func26 rfl Try.call26 rfl ?_
  intro ρ w hH
  conv => whnf
  have hnb := hs.nb
  have hnl := hs.nl
  have hp2 := properF_iff.1 hp
  refine call_step (linked_t bs ls l) rfl rfl ?_
  conv => whnf
  refine ⟨(by repeat' (first | exact trivial | exact rfl | refine And.intro ?_ ?_ | ((conv => whnf); first | exact trivial | exact rfl | refine And.intro ?_ ?_ | omega))), (by repeat' (first | exact trivial | exact rfl | refine And.intro ?_ ?_ | ((conv => whnf); first | exact trivial | exact rfl | refine And.intro ?_ ?_ | omega))), ?_⟩
  conv => whnf
  rw [hp]
  refine ⟨fun hc => ?_, fun hc => ?_⟩
  · exact absurd hc (by simp)
  conv => whnf
  refine call_step (greatest_t bs ls l.f l.t (by omega) hs.boxB (by omega) (allF_ok hs) ⟨by omega, by omega⟩ ⟨by omega, by omega⟩) rfl rfl ?_
  conv => whnf
  refine ⟨(by repeat' (first | exact trivial | exact rfl | refine And.intro ?_ ?_ | ((conv => whnf); first | exact trivial | exact rfl | refine And.intro ?_ ?_ | omega))), (by repeat' (first | exact trivial | exact rfl | refine And.intro ?_ ?_ | ((conv => whnf); first | exact trivial | exact rfl | refine And.intro ?_ ?_ | omega))), ?_⟩
  conv => whnf
  repeat' (first | exact trivial | exact rfl | refine And.intro ?_ ?_ | ((conv => whnf); first | exact trivial | exact rfl | refine And.intro ?_ ?_ | omega))

theorem refImpliedErr_t (bs : List (Int × Int)) (ls : List Lnk) (l : Lnk) (hp : properF l bs.length = false) :
    Triple Try.prog 26 [sysA bs.length ls.length, svL l] (sysH bs ls) 2 (.tup [.inl (.v (.bool false)), .inl (.v (.int .i64 1))]) [] := by
  refine triple_of tB_ok Try.func26 rfl Try.call26 rfl ?_
  intro ρ w hH
  conv => whnf
  refine call_step (linked_t bs ls l) rfl rfl ?_
  conv => whnf
  refine ⟨(by repeat' (first | exact trivial | exact rfl | refine And.intro ?_ ?_ | ((conv => whnf); first | exact trivial | exact rfl | refine And.intro ?_ ?_ | omega))), (by repeat' (first | exact trivial | exact rfl | refine And.intro ?_ ?_ | ((conv => whnf); first | exact trivial | exact rfl | refine And.intro ?_ ?_ | omega))), ?_⟩
  conv => whnf
  rw [hp]
  refine ⟨fun hc => ?_, fun hc => ?_⟩
  · conv => whnf
    repeat' (first | exact trivial | exact rfl | refine And.intro ?_ ?_ | ((conv => whnf); first | exact trivial | exact rfl | refine And.intro ?_ ?_ | omega))
  · exact absurd hc (by simp)

/-- A system that the law's net takes. -/
structure NetOK (bs : List (Int × Int)) (ls : List Lnk) : Prop where
  few : bs.length ≤ 14 ∧ ls.length ≤ 40
  sys : SysOK bs ls
  agr : (fromF bs.length (allF bs ls) (-1)).isSome = true

theorem graphF_zero (bs : List (Int × Int)) (ls : List Lnk) : graphF bs ls 0 = allF bs ls := by
  unfold graphF
  exact List.filter_eq_self.2 fun l _ => rfl

theorem boxLinks_has {bs : List (Int × Int)} : ∀ {v i : Nat} (h : i < bs.length), (⟨-1, (v + i : Nat), bs[i].2, 0⟩ : Lnk) ∈ boxLinks v bs ∧ (⟨(v + i : Nat), -1, -bs[i].1, 0⟩ : Lnk) ∈ boxLinks v bs := by
  induction bs with
  | nil => intro v i h; simp at h
  | cons b r ih =>
    intro v i h
    cases i with
    | zero => simp [boxLinks]
    | succ i =>
      have := ih (v := v + 1) (i := i) (by simpa using h)
      simp only [boxLinks, List.mem_cons, List.getElem_cons_succ]
      rw [show v + (i + 1) = v + 1 + i from by omega]
      exact ⟨.inr (.inr this.1), .inr (.inr this.2)⟩

theorem hub_graph (bs : List (Int × Int)) (ls : List Lnk) (k : Int) : Hub bs.length (graphF bs ls k) := by
  intro v hv
  have hb := boxLinks_has (bs := bs) (v := 0) hv
  rw [Nat.zero_add] at hb
  have hk : ∀ l : Lnk, l.i = 0 → keeps k l = true := by
    intro l hl
    unfold keeps
    rw [hl]
    by_cases h : k = 0
    · simp [h]
    · have : (0 : Int) ≠ k := fun h2 => h h2.symm
      simp [this]
  refine ⟨⟨_, List.mem_filter.2 ⟨List.mem_append.2 (.inl hb.1), hk _ rfl⟩, ?_, ?_⟩, ⟨_, List.mem_filter.2 ⟨List.mem_append.2 (.inl hb.2), hk _ rfl⟩, ?_, ?_⟩⟩
  · rfl
  · simp only [plc]; rw [if_neg (by omega)]; omega
  · simp only [plc]; rw [if_neg (by omega)]; omega
  · rfl

theorem NetOK.calm {bs : List (Int × Int)} {ls : List Lnk} (h : NetOK bs ls) : Calm bs ls 0 := by
  obtain ⟨o, ho⟩ := Option.isSome_iff_exists.1 h.agr
  have := allF_len bs ls
  have hf := h.few
  have := from_calm hf.1 (by omega) (allF_ok h.sys) ⟨by omega, by omega⟩ ho
  unfold Calm
  rw [graphF_zero]
  exact this

theorem netNo_t (bs : List (Int × Int)) (ls : List Lnk) (h : ¬ NetOK bs ls) : Triple Try.prog 20 [sysA bs.length ls.length] (sysH bs ls) 2 (.tup [.inl (.v (.pointer none)), .inl (.b false)]) [] := by
  refine triple_of tB_ok Try.func20 rfl Try.call20 rfl ?_
  intro ρ w hH
  conv => whnf
  refine call_step (few_t bs ls) rfl rfl ?_
  conv => whnf
  refine ⟨(by repeat' (first | exact trivial | exact rfl | refine And.intro ?_ ?_ | ((conv => whnf); first | exact trivial | exact rfl | refine And.intro ?_ ?_ | omega))), (by repeat' (first | exact trivial | exact rfl | refine And.intro ?_ ?_ | ((conv => whnf); first | exact trivial | exact rfl | refine And.intro ?_ ?_ | omega))), ?_⟩
  conv => whnf
  refine ⟨fun hc => ?_, fun hc => ?_⟩
  · conv => whnf
    repeat' (first | exact trivial | exact rfl | refine And.intro ?_ ?_ | ((conv => whnf); first | exact trivial | exact rfl | refine And.intro ?_ ?_ | omega))
  have hf : fewF bs ls = true := by simpa using (show (!fewF bs ls) = false from hc)
  simp only [fewF, Bool.and_eq_true, decide_eq_true_eq] at hf
  conv => whnf
  refine call_step (refCheck_t bs ls (by omega) (by omega)) rfl rfl ?_
  conv => whnf
  refine ⟨(by repeat' (first | exact trivial | exact rfl | refine And.intro ?_ ?_ | ((conv => whnf); first | exact trivial | exact rfl | refine And.intro ?_ ?_ | omega))), (by repeat' (first | exact trivial | exact rfl | refine And.intro ?_ ?_ | ((conv => whnf); first | exact trivial | exact rfl | refine And.intro ?_ ?_ | omega))), ?_⟩
  conv => whnf
  refine ⟨fun hc => ?_, fun hc => ?_⟩
  · conv => whnf
    repeat' (first | exact trivial | exact rfl | refine And.intro ?_ ?_ | ((conv => whnf); first | exact trivial | exact rfl | refine And.intro ?_ ?_ | omega))
  have hk : checkF bs ls = 0 := by simpa using hc
  have hs := checkF_ok.1 hk
  conv => whnf
  refine call_step (agrees_t bs ls (by omega) hs.boxB (by omega) (allF_ok hs)) rfl rfl ?_
  conv => whnf
  refine ⟨(by repeat' (first | exact trivial | exact rfl | refine And.intro ?_ ?_ | ((conv => whnf); first | exact trivial | exact rfl | refine And.intro ?_ ?_ | omega))), (by repeat' (first | exact trivial | exact rfl | refine And.intro ?_ ?_ | ((conv => whnf); first | exact trivial | exact rfl | refine And.intro ?_ ?_ | omega))), ?_⟩
  conv => whnf
  refine ⟨fun hc => ?_, fun hc => ?_⟩
  · conv => whnf
    repeat' (first | exact trivial | exact rfl | refine And.intro ?_ ?_ | ((conv => whnf); first | exact trivial | exact rfl | refine And.intro ?_ ?_ | omega))
  have ha : (fromF bs.length (allF bs ls) (-1)).isSome = true := by simpa using (show (!(fromF bs.length (allF bs ls) (-1)).isSome) = false from hc)
  exact (h ⟨hf, hs, ha⟩).elim

theorem netYes_t (bs : List (Int × Int)) (ls : List Lnk) (h : NetOK bs ls) : Triple Try.prog 20 [sysA bs.length ls.length] (sysH bs ls) 2 (.tup [.inl (.p 2 0 0 0), .inl (.b true)])
      [(2, true, netC 3 4 bs.length ls.length), (3, true, .arr (aSpan bs)), (4, true, .arr (aLink ls))] := by
  refine triple_of tB_ok Try.func20 rfl Try.call20 rfl ?_
  intro ρ w hH
  conv => whnf
  have hf := h.few
  have hs := h.sys
  have hfe : fewF bs ls = true := by simp [fewF]; omega
  refine call_step (few_t bs ls) rfl rfl ?_
  conv => whnf
  refine ⟨(by repeat' (first | exact trivial | exact rfl | refine And.intro ?_ ?_ | ((conv => whnf); first | exact trivial | exact rfl | refine And.intro ?_ ?_ | omega))), (by repeat' (first | exact trivial | exact rfl | refine And.intro ?_ ?_ | ((conv => whnf); first | exact trivial | exact rfl | refine And.intro ?_ ?_ | omega))), ?_⟩
  conv => whnf
  rw [hfe]
  refine ⟨fun hc => ?_, fun hc => ?_⟩
  · exact absurd hc (by simp)
  conv => whnf
  refine call_step (refCheck_t bs ls (by omega) (by omega)) rfl rfl ?_
  conv => whnf
  refine ⟨(by repeat' (first | exact trivial | exact rfl | refine And.intro ?_ ?_ | ((conv => whnf); first | exact trivial | exact rfl | refine And.intro ?_ ?_ | omega))), (by repeat' (first | exact trivial | exact rfl | refine And.intro ?_ ?_ | ((conv => whnf); first | exact trivial | exact rfl | refine And.intro ?_ ?_ | omega))), ?_⟩
  conv => whnf
  rw [checkF_ok.2 hs]
  refine ⟨fun hc => ?_, fun hc => ?_⟩
  · exact absurd hc (by simp)
  conv => whnf
  refine call_step (agrees_t bs ls (by omega) hs.boxB (by omega) (allF_ok hs)) rfl rfl ?_
  conv => whnf
  refine ⟨(by repeat' (first | exact trivial | exact rfl | refine And.intro ?_ ?_ | ((conv => whnf); first | exact trivial | exact rfl | refine And.intro ?_ ?_ | omega))), (by repeat' (first | exact trivial | exact rfl | refine And.intro ?_ ?_ | ((conv => whnf); first | exact trivial | exact rfl | refine And.intro ?_ ?_ | omega))), ?_⟩
  conv => whnf
  rw [h.agr]
  refine ⟨fun hc => ?_, fun hc => ?_⟩
  · exact absurd hc (by simp)
  conv => whnf
  refine call_step (newNone_t bs ls hs h.calm) rfl rfl ?_
  conv => whnf
  refine ⟨(by repeat' (first | exact trivial | exact rfl | refine And.intro ?_ ?_ | ((conv => whnf); first | exact trivial | exact rfl | refine And.intro ?_ ?_ | omega))), (by repeat' (first | exact trivial | exact rfl | refine And.intro ?_ ?_ | ((conv => whnf); first | exact trivial | exact rfl | refine And.intro ?_ ?_ | omega))), ?_⟩
  conv => whnf
  repeat' (first | exact trivial | exact rfl | refine And.intro ?_ ?_ | ((conv => whnf); first | exact trivial | exact rfl | refine And.intro ?_ ?_ | omega))

end Go.Proofs

/-
  Plain lemmas, part 11: the way back from a place to the start, where relaxing has ended. Conditions: none; definitions and plain lemmas.
-/
namespace Go
namespace Proofs

theorem key_befF {n : Nat} {rev : Nat → Bool} {arcs : List Lnk} {k : Nat} {e : Edg} (he : e ∈ edgs n rev 0 arcs) (hk : e.k = (k : Int)) :
    keyE n arcs k = e ∧ befF n arcs k = some e.a ∧ ∃ l, arcs[k / 2]? = some l ∧ ((k % 2 = 0 ∧ e.a = plc n l.f ∧ e.b = plc n l.t ∧ e.w = l.m) ∨ (k % 2 = 1 ∧ rev (k / 2) = true ∧ e.a = plc n l.t ∧ e.b = plc n l.f ∧ e.w = -l.m)) := by
  refine ⟨by rw [← hk]; exact edgs_key e he, ?_⟩
  obtain ⟨j, l, hj, h | ⟨hr, h⟩⟩ := edgs_mem.1 he
  · subst h
    have hk2 : k = 2 * j := by have : 2 * ((0 + j : Nat) : Int) = (k : Int) := hk; omega
    have e1 : k / 2 = j := by omega
    have e2 : k % 2 = 0 := by omega
    unfold befF
    rw [e1, hj, e2]
    exact ⟨rfl, l, rfl, .inl ⟨rfl, rfl, rfl, rfl⟩⟩
  · subst h
    have hk2 : k = 2 * j + 1 := by have : 2 * ((0 + j : Nat) : Int) + 1 = (k : Int) := hk; omega
    have e1 : k / 2 = j := by omega
    have e2 : k % 2 = 1 := by omega
    unfold befF
    rw [e1, hj, e2]
    rw [Nat.zero_add] at hr
    exact ⟨rfl, l, rfl, .inr ⟨rfl, hr, rfl, rfl, rfl⟩⟩

/-- The arcs of a way back, from a place to the start: all tight; a clock falls along it. -/
def StepP (n : Nat) (arcs : List Lnk) (E : List Edg) (T : Tr) (ts : Nat → Nat) (src : Nat) : List Nat → Nat → Prop
  | [], p => p = src
  | k :: r, p => p ≠ src ∧ keyE n arcs k ∈ E ∧ (keyE n arcs k).k = (k : Int) ∧ (keyE n arcs k).b = p ∧ T.last.getD p (-1) = (k : Int) ∧ T.sum.getD (keyE n arcs k).a 0 + (keyE n arcs k).w = T.sum.getD p 0 ∧ ts (keyE n arcs k).a < ts p ∧ StepP n arcs E T ts src r (keyE n arcs k).a

structure Tree (n : Nat) (arcs : List Lnk) (E : List Edg) (src : Nat) (T : Tr) (ts : Nat → Nat) : Prop where
  bf : ∃ r, BF E (n + 1) src r 0 ts T
  fix : Fix E T
  all : ∀ v, v ≤ n → T.there.getD v false = true
  src0 : T.sum.getD src 0 = 0 ∧ T.last.getD src (-1) = -1

theorem tree_of {n : Nat} {rev : Nat → Bool} {arcs : List Lnk} {src k : Nat} (hok : ∀ l ∈ arcs, ArcOK n l) (hub : Hub n arcs) (hs : src ≤ n) (h : (roundsF n rev arcs k (startF n src)).2 = -1) :
    ∃ ts, Tree n arcs (edgs n rev 0 arcs) src (roundsF n rev arcs k (startF n src)).1 ts := by
  obtain ⟨hf, ts, r, hB⟩ := rounds_fix hok hs h
  obtain ⟨hall, hp⟩ := rounds_hub hok hub hs h
  have hlow := hB.low (fun v => (roundsF n rev arcs k (startF n src)).1.sum.getD v 0) hp src hB.so.1 hB.so.2.1
  have h0 := hB.so.2.2.1
  refine ⟨ts, ⟨r, hB⟩, hf, hall, by omega, ?_⟩
  rcases hB.so.2.2.2 with h1 | h1
  · omega
  · exact h1

theorem Tree.pot {n : Nat} {arcs : List Lnk} {E : List Edg} {src : Nat} {T : Tr} {ts : Nat → Nat} (h : Tree n arcs E src T ts) (hE : EOK (n + 1) E) : Pot (fun v => T.sum.getD v 0) E :=
  fix_pot h.fix fun e he => h.all _ (by have := (hE e he).1; omega)

theorem Tree.low {n : Nat} {arcs : List Lnk} {E : List Edg} {src : Nat} {T : Tr} {ts : Nat → Nat} (h : Tree n arcs E src T ts) {q : Nat → Int} (hq : Pot q E) {v : Nat} (hv : v ≤ n) : q v ≤ q src + T.sum.getD v 0 := by
  obtain ⟨r, hB⟩ := h.bf
  exact hB.low q hq v (by omega) (h.all v hv)

theorem Tree.steps {n : Nat} {rev : Nat → Bool} {arcs : List Lnk} {src : Nat} {T : Tr} {ts : Nat → Nat} (h : Tree n arcs (edgs n rev 0 arcs) src T ts) (hok : ∀ l ∈ arcs, ArcOK n l) :
    ∀ (t v : Nat), ts v ≤ t → v ≤ n → ∃ ks, (∀ f, ks.length < f → stepsF n arcs T.last src f v = some ks) ∧ StepP n arcs (edgs n rev 0 arcs) T ts src ks v := by
  have hE : EOK (n + 1) (edgs n rev 0 arcs) := edgs_ok hok
  obtain ⟨r, hB⟩ := h.bf
  intro t
  induction t with
  | zero =>
    intro v ht hv
    have hs : v = src := by
      by_cases hl : T.last.getD v (-1) = -1
      · exact (hB.root v (by omega) hl).1 (h.all v hv)
      · have := (hB.par v (by omega) hl).2.1; omega
    refine ⟨[], fun f hf => ?_, hs⟩
    obtain ⟨f, rfl⟩ : ∃ g, f = g + 1 := ⟨f - 1, by simp at hf; omega⟩
    unfold stepsF
    rw [if_pos hs]
  | succ t ih =>
    intro v ht hv
    by_cases hs : v = src
    · refine ⟨[], fun f hf => ?_, hs⟩
      obtain ⟨f, rfl⟩ : ∃ g, f = g + 1 := ⟨f - 1, by simp at hf; omega⟩
      unfold stepsF
      rw [if_pos hs]
    · have hl : T.last.getD v (-1) ≠ -1 := fun hl => hs ((hB.root v (by omega) hl).1 (h.all v hv))
      obtain ⟨h1, h2, e, he, hk, hb, hta, hL, htt⟩ := hB.par v (by omega) hl
      have hfx := (h.fix e he hta).2
      rw [hb] at hfx
      have htt : T.sum.getD e.a 0 + e.w = T.sum.getD v 0 ∧ ts e.a < ts v := by
        rcases htt with h3 | h3
        · omega
        · exact h3
      have hkn : 0 ≤ e.k := (hE e he).2.2
      obtain ⟨k, hkk⟩ : ∃ k : Nat, e.k = (k : Int) := ⟨e.k.toNat, by omega⟩
      obtain ⟨g1, g2, g3⟩ := key_befF he hkk
      have hea : e.a ≤ n := by have := (hE e he).1; omega
      obtain ⟨ks, hst, hsp⟩ := ih e.a (by omega) hea
      have hvl : v < T.last.length := by rw [hB.ll]; omega
      have hget : T.last[v]? = some (k : Int) := by
        rw [← hkk, hk, List.getD_eq_getElem?_getD, List.getElem?_eq_getElem hvl]; rfl
      refine ⟨k :: ks, fun f hf => ?_, ?_⟩
      · obtain ⟨f, rfl⟩ : ∃ g, f = g + 1 := ⟨f - 1, by simp at hf; omega⟩
        unfold stepsF
        rw [if_neg hs, hget]
        simp only [Int.toNat_natCast, g2]
        rw [if_pos (by omega), hst f (by simpa using hf)]
        rfl
      · unfold StepP
        rw [g1]
        exact ⟨hs, he, hkk, hb, by rw [← hkk, hk], htt.1, htt.2, hsp⟩

theorem StepP.nodes {n : Nat} {arcs : List Lnk} {E : List Edg} {T : Tr} {ts : Nat → Nat} {src : Nat} (hE : EOK (n + 1) E) : ∀ {ks : List Nat} {p : Nat}, p ≤ n → StepP n arcs E T ts src ks p →
    (∀ k ∈ ks, ts (keyE n arcs k).b ≤ ts p ∧ (keyE n arcs k).b ≤ n ∧ (keyE n arcs k).b ≠ src ∧ keyE n arcs k ∈ E ∧ (keyE n arcs k).k = (k : Int) ∧ T.sum.getD (keyE n arcs k).a 0 + (keyE n arcs k).w = T.sum.getD (keyE n arcs k).b 0) ∧
    (ks.map fun (k : Nat) => (keyE n arcs k).b).Nodup
  | [], p, _, _ => ⟨fun k hk => (by cases hk), List.nodup_nil⟩
  | k :: r, p, hp, h => by
    obtain ⟨h1, h2, h3, h4, h5, h6, h7, h8⟩ := h
    have ha : (keyE n arcs k).a ≤ n := by have := (hE _ h2).1; omega
    obtain ⟨i1, i2⟩ := StepP.nodes hE ha h8
    refine ⟨fun k' hk' => ?_, ?_⟩
    · rcases List.mem_cons.1 hk' with rfl | hk'
      · rw [h4]; exact ⟨Nat.le_refl _, hp, h1, h2, h3, h6⟩
      · obtain ⟨j1, j2, j3, j4, j5, j6⟩ := i1 k' hk'
        exact ⟨by omega, j2, j3, j4, j5, j6⟩
    · rw [List.map_cons, List.nodup_cons]
      refine ⟨fun hm => ?_, i2⟩
      obtain ⟨k', hk', he⟩ := List.mem_map.1 hm
      have := (i1 k' hk').1
      rw [he, h4] at this
      omega

theorem nodup_len {N : Nat} {l : List Nat} (hn : l.Nodup) (hl : ∀ x ∈ l, x < N) : l.length ≤ N := by
  rcases Nat.lt_or_ge N l.length with h | h
  · exfalso
    obtain ⟨i, j, hij, hj, he⟩ := pigeon N (fun i => l.getD i 0) (fun i hi => by
      show l.getD i 0 < N
      have : i < l.length := by omega
      rw [List.getD_eq_getElem?_getD, List.getElem?_eq_getElem this]
      exact hl _ (List.getElem_mem this))
    have hi' : i < l.length := by omega
    have hj' : j < l.length := by omega
    simp only [List.getD_eq_getElem?_getD, List.getElem?_eq_getElem hi', List.getElem?_eq_getElem hj', Option.getD_some] at he
    have := List.pairwise_iff_getElem.1 hn i j hi' hj' hij
    exact this he
  · exact h

theorem StepP.len {n : Nat} {arcs : List Lnk} {E : List Edg} {T : Tr} {ts : Nat → Nat} {src : Nat} {ks : List Nat} {p : Nat} (hE : EOK (n + 1) E) (hs : src ≤ n) (hp : p ≤ n) (h : StepP n arcs E T ts src ks p) : ks.length ≤ n := by
  obtain ⟨h1, h2⟩ := h.nodes hE hp
  have := nodup_len (N := n + 1) (l := src :: ks.map fun (k : Nat) => (keyE n arcs k).b) (by
    rw [List.nodup_cons]
    refine ⟨fun hm => ?_, h2⟩
    obtain ⟨k, hk, he⟩ := List.mem_map.1 hm
    exact (h1 k hk).2.2.1 he) (fun x hx => by
    rcases List.mem_cons.1 hx with rfl | hx
    · omega
    · obtain ⟨k, hk, rfl⟩ := List.mem_map.1 hx
      have := (h1 k hk).2.1; omega)
  simpa using this

theorem Tree.path {n : Nat} {rev : Nat → Bool} {arcs : List Lnk} {src v : Nat} {T : Tr} {ts : Nat → Nat} (h : Tree n arcs (edgs n rev 0 arcs) src T ts) (hok : ∀ l ∈ arcs, ArcOK n l) (hs : src ≤ n) (hv : v ≤ n) :
    ∃ ks, stepsF n arcs T.last src (n + 2) v = some ks ∧ ks.length ≤ n ∧ StepP n arcs (edgs n rev 0 arcs) T ts src ks v := by
  obtain ⟨ks, h1, h2⟩ := h.steps hok _ v (Nat.le_refl _) hv
  have := h2.len (edgs_ok hok) hs hv
  exact ⟨ks, h1 _ (by omega), this, h2⟩

/-- The links of a way back. -/
def linksK (arcs : List Lnk) (ks : List Nat) : List Lnk := ks.map fun k => arcs.getD (k / 2) ⟨0, 0, 0, 0⟩

end Proofs
end Go

namespace Go.Proofs
open Go.Sx

theorem lnk_eq (a b : Lnk) : ([a.f, a.t, a.m, a.i] == [b.f, b.t, b.m, b.i]) = decide (a = b) := by
  cases a; cases b
  rw [Bool.eq_iff_iff]
  simp

theorem known_t (xs : List Lnk) (x : Lnk) (hb : xs.length ≤ 1000000) : Triple Try.prog 134 [.c (.s 0 0 xs.length 4), svL x] [(0, false, .arr (aLink xs))] 1 (bv (decide (x ∈ xs))) [] := by
  refine triple_of tB_ok Try.func134 rfl Try.call134 rfl ?_
  intro ρ w hH
  conv => whnf
  refine loop_step tB_ok (G := Nat) 0 [] (fun i => [(5, iv .i64 i)]) (fun _ => []) (fun i => i ≤ xs.length ∧ ∀ y ∈ xs.take i, y ≠ x) (fun i => xs.length - i) ?_
  conv => whnf
  refine ⟨⟨0, ⟨Nat.zero_le _, by simp⟩, ?_⟩, ?_⟩
  · conv => whnf
    repeat' (first | exact trivial | exact rfl | refine And.intro ?_ ?_ | ((conv => whnf); first | exact trivial | exact rfl | refine And.intro ?_ ?_ | omega))
  intro i hi ρ1 t1 hρ1
  obtain ⟨hi, hn⟩ := hi
  conv => whnf
  refine ⟨fun hc => ?_, fun hc => ?_⟩
  · have hlt : i < xs.length := by simpa using hc
    conv => whnf
    refine ⟨i, rfl, hlt, hlt, ?_⟩
    conv => whnf
    refine ⟨fun hc => ?_, fun hc => ?_⟩
    · have he : xs[i] = x := by
        have := (lnk_eq xs[i] x).symm.trans hc
        exact of_decide_eq_true this
      conv => whnf
      refine ⟨?_, trivial⟩
      show true = decide (x ∈ xs)
      rw [decide_eq_true]
      rw [← he]; exact List.getElem_mem hlt
    · have he : xs[i] ≠ x := by
        have := (lnk_eq xs[i] x).symm.trans hc
        exact of_decide_eq_false this
      conv => whnf
      refine ⟨(i : Int) + 1, wrapId (z := (i : Int) + 1) ⟨by omega, by omega⟩, ?_⟩
      refine ⟨i + 1, ⟨hlt, fun y hy => ?_⟩, by show xs.length - (i + 1) < xs.length - i; omega, ?_⟩
      · rw [take_snoc hlt] at hy
        rcases List.mem_append.1 hy with hy | hy
        · exact hn y hy
        · simp at hy; rw [hy]; exact he
      conv => whnf
      refine ⟨rfl, ?_⟩
      conv => whnf
      repeat' (first | exact trivial | exact rfl | refine And.intro ?_ ?_ | ((conv => whnf); first | exact trivial | exact rfl | refine And.intro ?_ ?_ | omega))
  have hie : i = xs.length := by simp at hc; omega
  subst hie
  rw [List.take_length] at hn
  conv => whnf
  refine ⟨?_, trivial⟩
  show false = decide (x ∈ xs)
  rw [decide_eq_false]
  intro hm
  exact hn x hm rfl

/-- Following a chain of links: the sum and where it ends. -/
def chainF (arcs : List Lnk) : List Lnk → Int → Int → Option (Int × Int)
  | [], at', s => some (s, at')
  | c :: r, at', s => if c ∈ arcs ∧ c.f = at' then chainF arcs r c.t (s + c.m) else none

def chainR (arcs ch : List Lnk) (a b : Int) : Int × Bool := match chainF arcs ch a 0 with
  | some (s, e) => (s, e == b)
  | none => (0, false)

theorem chained_t (bs : List (Int × Int)) (ls ch : List Lnk) (a b : Int) (hs : SysOK bs ls) (hc : ch.length ≤ 3000) :
    Triple Try.prog 99 [sysA bs.length ls.length, iv .i64 a, iv .i64 b, .c (.s 2 0 ch.length 4)] ((2, false, .arr (aLink ch)) :: sysH bs ls) 3 (.tup [.inl (.v (.int .i64 (chainR (allF bs ls) ch a b).1)), .inl (.v (.bool (chainR (allF bs ls) ch a b).2))]) [] := by
  refine triple_of tB_ok Try.func99 rfl Try.call99 rfl ?_
  intro ρ w hH
  conv => whnf
  have hnb := hs.nb
  have hnl := hs.nl
  have hal := allF_le hs
  have hok := allF_ok hs
  refine call_step (refAll_t bs ls (by omega) hs.boxB (by omega)) rfl rfl ?_
  conv => whnf
  refine ⟨(by repeat' (first | exact trivial | exact rfl | refine And.intro ?_ ?_ | ((conv => whnf); first | exact trivial | exact rfl | refine And.intro ?_ ?_ | omega))), (by repeat' (first | exact trivial | exact rfl | refine And.intro ?_ ?_ | ((conv => whnf); first | exact trivial | exact rfl | refine And.intro ?_ ?_ | omega))), ?_⟩
  conv => whnf
  have hR : chainR (allF bs ls) ch a b = match chainF (allF bs ls) ch a 0 with
    | some (s, e) => (s, e == b)
    | none => (0, false) := rfl
  generalize chainR (allF bs ls) ch a b = R at *
  generalize allF bs ls = arcs at *
  refine loop_step tB_ok (G := Nat × Int × Int) 0 [] (fun g => [(13, iv .i64 g.1), (11, iv .i64 g.2.1), (12, iv .i64 g.2.2)]) (fun _ => []) (fun g => g.1 ≤ ch.length ∧ (-(33554432 * (g.1 : Int)) ≤ g.2.1 ∧ g.2.1 ≤ 33554432 * (g.1 : Int)) ∧ chainF arcs ch a 0 = chainF arcs (ch.drop g.1) g.2.2 g.2.1) (fun g => ch.length - g.1) ?_
  conv => whnf
  refine ⟨⟨(0, 0, a), ⟨Nat.zero_le _, ⟨by simp, by simp⟩, rfl⟩, ?_⟩, ?_⟩
  · conv => whnf
    repeat' (first | exact trivial | exact rfl | refine And.intro ?_ ?_ | ((conv => whnf); first | exact trivial | exact rfl | refine And.intro ?_ ?_ | omega))
  rintro ⟨i, s, at'⟩ ⟨hi, hsb, hF⟩ ρ1 t1 hρ1
  have hi : i ≤ ch.length := hi
  have hsb : -(33554432 * (i : Int)) ≤ s ∧ s ≤ 33554432 * (i : Int) := hsb
  have hF : chainF arcs ch a 0 = chainF arcs (ch.drop i) at' s := hF
  dsimp only
  conv => whnf
  refine ⟨fun hc => ?_, fun hc => ?_⟩
  · have hlt : i < ch.length := by simpa using hc
    rw [List.drop_eq_getElem_cons hlt] at hF
    conv => whnf
    refine ⟨i, rfl, hlt, hlt, ?_⟩
    conv => whnf
    refine call_step (known_t arcs ch[i] (by omega)) rfl rfl ?_
    conv => whnf
    refine ⟨(by repeat' (first | exact trivial | exact rfl | refine And.intro ?_ ?_ | ((conv => whnf); first | exact trivial | exact rfl | refine And.intro ?_ ?_ | omega))), (by repeat' (first | exact trivial | exact rfl | refine And.intro ?_ ?_ | ((conv => whnf); first | exact trivial | exact rfl | refine And.intro ?_ ?_ | omega))), ?_⟩
    conv => whnf
    refine ⟨fun hc => ?_, fun hc => ?_⟩
    · have hk : ch[i] ∉ arcs := by simpa using (show (!decide (ch[i] ∈ arcs)) = true from hc)
      have e : R = (0, false) := by rw [hR, hF, chainF, if_neg (fun h => hk h.1)]
      rw [e]
      conv => whnf
      repeat' (first | exact trivial | exact rfl | refine And.intro ?_ ?_ | ((conv => whnf); first | exact trivial | exact rfl | refine And.intro ?_ ?_ | omega))
    have hk : ch[i] ∈ arcs := by simpa using (show (!decide (ch[i] ∈ arcs)) = false from hc)
    conv => whnf
    refine ⟨i, rfl, hlt, hlt, ?_⟩
    conv => whnf
    refine ⟨fun hc => ?_, fun hc => ?_⟩
    · have hf : ch[i].f ≠ at' := by simpa using (show (ch[i].f != at') = true from hc)
      have e : R = (0, false) := by rw [hR, hF, chainF, if_neg (fun h => hf h.2)]
      rw [e]
      conv => whnf
      repeat' (first | exact trivial | exact rfl | refine And.intro ?_ ?_ | ((conv => whnf); first | exact trivial | exact rfl | refine And.intro ?_ ?_ | omega))
    have hf : ch[i].f = at' := by simpa using (show (ch[i].f != at') = false from hc)
    have hm := (hok _ hk).2.2
    rw [chainF, if_pos ⟨hk, hf⟩] at hF
    conv => whnf
    refine ⟨i, rfl, hlt, hlt, ?_⟩
    conv => whnf
    refine ⟨s + ch[i].m, wrapId (z := s + ch[i].m) ⟨by omega, by omega⟩, ?_⟩
    conv => whnf
    refine ⟨i, rfl, hlt, hlt, ?_⟩
    conv => whnf
    refine ⟨(i : Int) + 1, wrapId (z := (i : Int) + 1) ⟨by omega, by omega⟩, ?_⟩
    refine ⟨(i + 1, s + ch[i].m, ch[i].t), ⟨hlt, ⟨by show -(33554432 * ((i + 1 : Nat) : Int)) ≤ s + ch[i].m; omega, by show s + ch[i].m ≤ 33554432 * ((i + 1 : Nat) : Int); omega⟩, hF⟩, by show ch.length - (i + 1) < ch.length - i; omega, ?_⟩
    conv => whnf
    refine ⟨rfl, ?_⟩
    conv => whnf
    repeat' (first | exact trivial | exact rfl | refine And.intro ?_ ?_ | ((conv => whnf); first | exact trivial | exact rfl | refine And.intro ?_ ?_ | omega))
  have hie : i = ch.length := by simp at hc; omega
  rw [hie, List.drop_length] at hF
  have e : R = (s, at' == b) := by rw [hR, hF]; rfl
  rw [e]
  conv => whnf
  repeat' (first | exact trivial | exact rfl | refine And.intro ?_ ?_ | ((conv => whnf); first | exact trivial | exact rfl | refine And.intro ?_ ?_ | omega))

def checkChainF (bs : List (Int × Int)) (ls : List Lnk) (a b : Int) (ch : List Lnk) : Int × Int :=
  if checkF bs ls ≠ 0 then (0, checkF bs ls) else if placeF bs.length a = false ∨ placeF bs.length b = false then (0, 1) else if 2000 < ch.length then (0, 2) else
  if (chainR (allF bs ls) ch a b).2 then ((chainR (allF bs ls) ch a b).1, 0) else (0, 8)

theorem refCheckChain_t (bs : List (Int × Int)) (ls ch : List Lnk) (a b : Int) (hb : bs.length ≤ 1000000) (hl : ls.length ≤ 1000000) (hcl : ch.length ≤ 1000000) :
    Triple Try.prog 50 [sysA bs.length ls.length, iv .i64 a, iv .i64 b, .c (.s 2 0 ch.length 4)] ((2, false, .arr (aLink ch)) :: sysH bs ls) 3 (.tup [.inl (.v (.int .i64 (checkChainF bs ls a b ch).1)), .inl (.v (.int .i64 (checkChainF bs ls a b ch).2))]) [] := by
  have hF : checkChainF bs ls a b ch = if checkF bs ls ≠ 0 then (0, checkF bs ls) else if placeF bs.length a = false ∨ placeF bs.length b = false then (0, 1) else if 2000 < ch.length then (0, 2) else
    if (chainR (allF bs ls) ch a b).2 then ((chainR (allF bs ls) ch a b).1, 0) else (0, 8) := rfl
  generalize checkChainF bs ls a b ch = R at *
  refine triple_of tB_ok Try.func50 rfl Try.call50 rfl ?_
  intro ρ w hH
  conv => whnf
  refine call_step (refCheck_t bs ls hb hl) rfl rfl ?_
  conv => whnf
  refine ⟨(by repeat' (first | exact trivial | exact rfl | refine And.intro ?_ ?_ | ((conv => whnf); first | exact trivial | exact rfl | refine And.intro ?_ ?_ | omega))), (by repeat' (first | exact trivial | exact rfl | refine And.intro ?_ ?_ | ((conv => whnf); first | exact trivial | exact rfl | refine And.intro ?_ ?_ | omega))), ?_⟩
  conv => whnf
  by_cases hck : checkF bs ls = 0
  · rw [if_neg (by simpa using hck)] at hF
    have hs := checkF_ok.1 hck
    rw [hck]
    refine ⟨fun hc => ?_, fun hc => ?_⟩
    · exact absurd hc (by simp)
    conv => whnf
    refine call_step (refPlace_t bs ls a) rfl rfl ?_
    conv => whnf
    refine ⟨(by repeat' (first | exact trivial | exact rfl | refine And.intro ?_ ?_ | ((conv => whnf); first | exact trivial | exact rfl | refine And.intro ?_ ?_ | omega))), (by repeat' (first | exact trivial | exact rfl | refine And.intro ?_ ?_ | ((conv => whnf); first | exact trivial | exact rfl | refine And.intro ?_ ?_ | omega))), ?_⟩
    conv => whnf
    refine ⟨fun hc => ?_, fun hc => ?_⟩
    · have h1 : placeF bs.length a = false := by simpa using (show (!placeF bs.length a) = true from hc)
      rw [if_pos (.inl h1)] at hF
      rw [hF]
      conv => whnf
      repeat' (first | exact trivial | exact rfl | refine And.intro ?_ ?_ | ((conv => whnf); first | exact trivial | exact rfl | refine And.intro ?_ ?_ | omega))
    have h1 : placeF bs.length a = true := by simpa using (show (!placeF bs.length a) = false from hc)
    conv => whnf
    refine call_step (refPlace_t bs ls b) rfl rfl ?_
    conv => whnf
    refine ⟨(by repeat' (first | exact trivial | exact rfl | refine And.intro ?_ ?_ | ((conv => whnf); first | exact trivial | exact rfl | refine And.intro ?_ ?_ | omega))), (by repeat' (first | exact trivial | exact rfl | refine And.intro ?_ ?_ | ((conv => whnf); first | exact trivial | exact rfl | refine And.intro ?_ ?_ | omega))), ?_⟩
    conv => whnf
    refine ⟨fun hc => ?_, fun hc => ?_⟩
    · have h2 : placeF bs.length b = false := by simpa using (show (!placeF bs.length b) = true from hc)
      rw [if_pos (.inr h2)] at hF
      rw [hF]
      conv => whnf
      repeat' (first | exact trivial | exact rfl | refine And.intro ?_ ?_ | ((conv => whnf); first | exact trivial | exact rfl | refine And.intro ?_ ?_ | omega))
    have h2 : placeF bs.length b = true := by simpa using (show (!placeF bs.length b) = false from hc)
    rw [if_neg (by rw [h1, h2]; simp)] at hF
    conv => whnf
    refine ⟨fun hc => ?_, fun hc => ?_⟩
    · have h3 : 2000 < ch.length := by have := of_decide_eq_true (show decide ((2000 : Int) < ch.length) = true from hc); omega
      rw [if_pos h3] at hF
      rw [hF]
      conv => whnf
      repeat' (first | exact trivial | exact rfl | refine And.intro ?_ ?_ | ((conv => whnf); first | exact trivial | exact rfl | refine And.intro ?_ ?_ | omega))
    have h3 : ¬ 2000 < ch.length := by have := of_decide_eq_false (show decide ((2000 : Int) < ch.length) = false from hc); omega
    rw [if_neg h3] at hF
    conv => whnf
    refine call_step (chained_t bs ls ch a b hs (by omega)) rfl rfl ?_
    conv => whnf
    refine ⟨(by repeat' (first | exact trivial | exact rfl | refine And.intro ?_ ?_ | ((conv => whnf); first | exact trivial | exact rfl | refine And.intro ?_ ?_ | omega))), (by repeat' (first | exact trivial | exact rfl | refine And.intro ?_ ?_ | ((conv => whnf); first | exact trivial | exact rfl | refine And.intro ?_ ?_ | omega))), ?_⟩
    conv => whnf
    refine ⟨fun hc => ?_, fun hc => ?_⟩
    · have h4 : (chainR (allF bs ls) ch a b).2 = false := by simpa using (show (!(chainR (allF bs ls) ch a b).2) = true from hc)
      rw [h4, if_neg (by simp)] at hF
      rw [hF]
      conv => whnf
      repeat' (first | exact trivial | exact rfl | refine And.intro ?_ ?_ | ((conv => whnf); first | exact trivial | exact rfl | refine And.intro ?_ ?_ | omega))
    · have h4 : (chainR (allF bs ls) ch a b).2 = true := by simpa using (show (!(chainR (allF bs ls) ch a b).2) = false from hc)
      rw [h4, if_pos rfl] at hF
      rw [hF]
      conv => whnf
      repeat' (first | exact trivial | exact rfl | refine And.intro ?_ ?_ | ((conv => whnf); first | exact trivial | exact rfl | refine And.intro ?_ ?_ | omega))
  · rw [if_pos (by simpa using hck)] at hF
    rw [hF]
    generalize checkF bs ls = c at *
    refine ⟨fun hcc => ?_, fun hcc => ?_⟩
    · conv => whnf
      repeat' (first | exact trivial | exact rfl | refine And.intro ?_ ?_ | ((conv => whnf); first | exact trivial | exact rfl | refine And.intro ?_ ?_ | omega))
    · exact absurd (by simpa using hcc) hck

end Go.Proofs

namespace Go.Proofs
open Go.Sx

def valI (pt : List Int) (i : Int) : Int := if i < 0 then 0 else max (-1099511627776) (min 1099511627776 (pt.getD i.toNat 0))

theorem value_t (pt : List Int) (i : Int) (hi : i < pt.length) : Triple Try.prog 108 [.c (.s 0 0 pt.length 1), iv .i64 i] [(0, false, .arr (aInt pt))] 1 (iv .i64 (valI pt i)) [] := by
  refine triple_of tB_ok Try.func108 rfl Try.call108 rfl ?_
  intro ρ w hH
  conv => whnf
  refine ⟨fun hc => ?_, fun hc => ?_⟩
  · have h : i < 0 := by simpa using hc
    conv => whnf
    refine ⟨?_, trivial⟩
    show (0 : Int) = valI pt i
    rw [valI, if_pos h]
  · have h : ¬ i < 0 := by simpa using hc
    have hn : i.toNat < pt.length := by omega
    conv => whnf
    refine ⟨i.toNat, by omega, hn, hn, ?_⟩
    conv => whnf
    refine ⟨?_, trivial⟩
    show _ = valI pt i
    rw [valI, if_neg h, getD_of hn]
    rfl

def violF (pt : List Int) (l : Lnk) : Bool := decide (l.m < valI pt l.t - valI pt l.f)

def allowsF (bs : List (Int × Int)) (ls : List Lnk) (pt : List Int) : Lnk × Bool :=
  if pt.length = bs.length then (match (allF bs ls).find? (violF pt) with
    | some l => (l, false)
    | none => (⟨0, 0, 0, 0⟩, true)) else (⟨0, 0, 0, 0⟩, false)

theorem valI_bd (pt : List Int) (i : Int) : -1099511627776 ≤ valI pt i ∧ valI pt i ≤ 1099511627776 := by
  unfold valI; split <;> omega

theorem find_take {α : Type} {p : α → Bool} {xs : List α} {i : Nat} (h : i < xs.length) (hn : xs.find? p = (xs.drop i).find? p) : xs.find? p = if p xs[i] then some xs[i] else (xs.drop (i + 1)).find? p := by
  rw [hn, List.drop_eq_getElem_cons h, List.find?_cons]
  cases p xs[i] <;> rfl

theorem refAllows_t (bs : List (Int × Int)) (ls : List Lnk) (pt : List Int) (hs : SysOK bs ls) (hp : pt.length ≤ 1000000) :
    Triple Try.prog 51 [sysA bs.length ls.length, .c (.s 2 0 pt.length 1)] ((2, false, .arr (aInt pt)) :: sysH bs ls) 3
      (.tup [.inr [.v (.int .i64 (allowsF bs ls pt).1.f), .v (.int .i64 (allowsF bs ls pt).1.t), .v (.int .i64 (allowsF bs ls pt).1.m), .v (.int .i64 (allowsF bs ls pt).1.i)], .inl (.v (.bool (allowsF bs ls pt).2))]) [] := by
  have hR : allowsF bs ls pt = if pt.length = bs.length then (match (allF bs ls).find? (violF pt) with
    | some l => (l, false)
    | none => (⟨0, 0, 0, 0⟩, true)) else (⟨0, 0, 0, 0⟩, false) := rfl
  generalize allowsF bs ls pt = R at *
  have hnb := hs.nb
  have hnl := hs.nl
  have hal := allF_le hs
  have hok := allF_ok hs
  refine triple_of tB_ok Try.func51 rfl Try.call51 rfl ?_
  intro ρ w hH
  conv => whnf
  refine ⟨fun hc => ?_, fun hc => ?_⟩
  · have h : ¬ pt.length = bs.length := by have := (by simpa using (show ((pt.length : Int) != bs.length) = true from hc) : ¬ (pt.length : Int) = bs.length); omega
    rw [if_neg h] at hR
    rw [hR]
    conv => whnf
    repeat' (first | exact trivial | exact rfl | refine And.intro ?_ ?_ | ((conv => whnf); first | exact trivial | exact rfl | refine And.intro ?_ ?_ | omega))
  have h : pt.length = bs.length := by have := (by simpa using (show ((pt.length : Int) != bs.length) = false from hc) : (pt.length : Int) = bs.length); omega
  rw [if_pos h] at hR
  conv => whnf
  refine call_step (refAll_t bs ls (by omega) hs.boxB (by omega)) rfl rfl ?_
  conv => whnf
  refine ⟨(by repeat' (first | exact trivial | exact rfl | refine And.intro ?_ ?_ | ((conv => whnf); first | exact trivial | exact rfl | refine And.intro ?_ ?_ | omega))), (by repeat' (first | exact trivial | exact rfl | refine And.intro ?_ ?_ | ((conv => whnf); first | exact trivial | exact rfl | refine And.intro ?_ ?_ | omega))), ?_⟩
  conv => whnf
  generalize allF bs ls = arcs at *
  refine loop_step tB_ok (G := Nat) 0 [] (fun i => [(7, iv .i64 i)]) (fun _ => []) (fun i => i ≤ arcs.length ∧ arcs.find? (violF pt) = (arcs.drop i).find? (violF pt)) (fun i => arcs.length - i) ?_
  conv => whnf
  refine ⟨⟨0, ⟨Nat.zero_le _, rfl⟩, ?_⟩, ?_⟩
  · conv => whnf
    repeat' (first | exact trivial | exact rfl | refine And.intro ?_ ?_ | ((conv => whnf); first | exact trivial | exact rfl | refine And.intro ?_ ?_ | omega))
  intro i hii ρ1 t1 hρ1
  obtain ⟨hi, hn⟩ := hii
  conv => whnf
  refine ⟨fun hc => ?_, fun hc => ?_⟩
  · have hlt : i < arcs.length := by simpa using hc
    obtain ⟨hf, ht, hm⟩ := hok arcs[i] (List.getElem_mem hlt)
    have hb1 := valI_bd pt arcs[i].f
    have hb2 := valI_bd pt arcs[i].t
    have hst := find_take hlt hn
    conv => whnf
    refine ⟨i, rfl, hlt, hlt, ?_⟩
    conv => whnf
    refine call_step (value_t pt arcs[i].f (by omega)) rfl rfl ?_
    conv => whnf
    refine ⟨(by repeat' (first | exact trivial | exact rfl | refine And.intro ?_ ?_ | ((conv => whnf); first | exact trivial | exact rfl | refine And.intro ?_ ?_ | omega))), (by repeat' (first | exact trivial | exact rfl | refine And.intro ?_ ?_ | ((conv => whnf); first | exact trivial | exact rfl | refine And.intro ?_ ?_ | omega))), ?_⟩
    conv => whnf
    refine ⟨i, rfl, hlt, hlt, ?_⟩
    conv => whnf
    refine call_step (value_t pt arcs[i].t (by omega)) rfl rfl ?_
    conv => whnf
    refine ⟨(by repeat' (first | exact trivial | exact rfl | refine And.intro ?_ ?_ | ((conv => whnf); first | exact trivial | exact rfl | refine And.intro ?_ ?_ | omega))), (by repeat' (first | exact trivial | exact rfl | refine And.intro ?_ ?_ | ((conv => whnf); first | exact trivial | exact rfl | refine And.intro ?_ ?_ | omega))), ?_⟩
    conv => whnf
    refine ⟨valI pt arcs[i].t - valI pt arcs[i].f, wrapId (z := valI pt arcs[i].t - valI pt arcs[i].f) ⟨by omega, by omega⟩, ?_⟩
    conv => whnf
    refine ⟨i, rfl, hlt, hlt, ?_⟩
    conv => whnf
    refine ⟨fun hc => ?_, fun hc => ?_⟩
    · have hv : violF pt arcs[i] = true := hc
      rw [hv, if_pos rfl] at hst
      rw [hst] at hR
      rw [hR]
      conv => whnf
      refine ⟨i, rfl, hlt, hlt, ?_⟩
      conv => whnf
      repeat' (first | exact trivial | exact rfl | refine And.intro ?_ ?_ | ((conv => whnf); first | exact trivial | exact rfl | refine And.intro ?_ ?_ | omega))
    · have hv : violF pt arcs[i] = false := hc
      rw [hv, if_neg (by simp)] at hst
      conv => whnf
      refine ⟨(i : Int) + 1, wrapId (z := (i : Int) + 1) ⟨by omega, by omega⟩, ?_⟩
      refine ⟨i + 1, ⟨hlt, hst⟩, by show arcs.length - (i + 1) < arcs.length - i; omega, ?_⟩
      conv => whnf
      refine ⟨rfl, ?_⟩
      conv => whnf
      repeat' (first | exact trivial | exact rfl | refine And.intro ?_ ?_ | ((conv => whnf); first | exact trivial | exact rfl | refine And.intro ?_ ?_ | omega))
  have hie : i = arcs.length := by simp at hc; omega
  rw [hie, List.drop_length] at hn
  rw [hn] at hR
  rw [hR]
  conv => whnf
  repeat' (first | exact trivial | exact rfl | refine And.intro ?_ ?_ | ((conv => whnf); first | exact trivial | exact rfl | refine And.intro ?_ ?_ | omega))

theorem lawProper_t (xs : List Lnk) (hn : (xs.map (·.t)).Nodup) (hb : xs.length ≤ 1000000) : Triple Try.prog 41 [.c (.s 0 0 xs.length 4)] [(0, false, .arr (aLink xs))] 1 (bv true) [] := by
  refine triple_of tB_ok Try.func41 rfl Try.call41 rfl ?_
  intro ρ w hH
  conv => whnf
  refine loop_step tB_ok (G := Nat) 0 [] (fun i => [(3, iv .i64 i)]) (fun _ => []) (fun i => i ≤ xs.length) (fun i => xs.length - i) ?_
  conv => whnf
  refine ⟨⟨0, Nat.zero_le _, ?_⟩, ?_⟩
  · conv => whnf
    repeat' (first | exact trivial | exact rfl | refine And.intro ?_ ?_ | ((conv => whnf); first | exact trivial | exact rfl | refine And.intro ?_ ?_ | omega))
  intro i hi ρ1 t1 hρ1
  conv => whnf
  refine ⟨fun hc => ?_, fun hc => ?_⟩
  · have hlt : i < xs.length := by simpa using hc
    conv => whnf
    refine loop_step tB_ok (G := Nat) 0 [] (fun k => [(4, iv .i64 k)]) (fun _ => []) (fun k => k ≤ i) (fun k => i - k) ?_
    conv => whnf
    refine ⟨⟨0, Nat.zero_le _, ?_⟩, ?_⟩
    · conv => whnf
      repeat' (first | exact trivial | exact rfl | refine And.intro ?_ ?_ | ((conv => whnf); first | exact trivial | exact rfl | refine And.intro ?_ ?_ | omega))
    intro k hk ρ2 t2 hρ2
    conv => whnf
    refine ⟨fun hc => ?_, fun hc => ?_⟩
    · have hki : k < i := by have := of_decide_eq_true (show decide ((k : Int) < i) = true from hc); omega
      have hkl : k < xs.length := by omega
      conv => whnf
      refine ⟨k, rfl, hkl, hkl, ?_⟩
      conv => whnf
      refine ⟨i, rfl, hlt, hlt, ?_⟩
      conv => whnf
      refine ⟨fun hc => ?_, fun hc => ?_⟩
      · exfalso
        have he : xs[k].t = xs[i].t := by simpa using (show (xs[k].t == xs[i].t) = true from hc)
        have := List.pairwise_iff_getElem.1 hn k i (by simpa using hkl) (by simpa using hlt) hki
        simp at this
        exact this he
      conv => whnf
      refine ⟨(k : Int) + 1, wrapId (z := (k : Int) + 1) ⟨by omega, by omega⟩, ?_⟩
      refine ⟨k + 1, hki, by show i - (k + 1) < i - k; omega, ?_⟩
      conv => whnf
      refine ⟨rfl, ?_⟩
      conv => whnf
      repeat' (first | exact trivial | exact rfl | refine And.intro ?_ ?_ | ((conv => whnf); first | exact trivial | exact rfl | refine And.intro ?_ ?_ | omega))
    conv => whnf
    refine ⟨(i : Int) + 1, wrapId (z := (i : Int) + 1) ⟨by omega, by omega⟩, ?_⟩
    refine ⟨i + 1, hlt, by show xs.length - (i + 1) < xs.length - i; omega, ?_⟩
    conv => whnf
    refine ⟨rfl, ?_⟩
    conv => whnf
    repeat' (first | exact trivial | exact rfl | refine And.intro ?_ ?_ | ((conv => whnf); first | exact trivial | exact rfl | refine And.intro ?_ ?_ | omega))
  conv => whnf
  repeat' (first | exact trivial | exact rfl | refine And.intro ?_ ?_ | ((conv => whnf); first | exact trivial | exact rfl | refine And.intro ?_ ?_ | omega))

def atF (pt : List Int) (i : Int) : Int := if i < 0 then 0 else pt.getD i.toNat 0

theorem at_t (pt : List Int) (i : Int) (hi : i < pt.length) : Triple Try.prog 52 [.c (.s 0 0 pt.length 1), iv .i64 i] [(0, false, .arr (aInt pt))] 1 (iv .i64 (atF pt i)) [] := by
  refine triple_of tB_ok Try.func52 rfl Try.call52 rfl ?_
  intro ρ w hH
  conv => whnf
  refine ⟨fun hc => ?_, fun hc => ?_⟩
  · have h : i < 0 := by simpa using hc
    conv => whnf
    refine ⟨?_, trivial⟩
    show (0 : Int) = atF pt i
    rw [atF, if_pos h]
  · have h : ¬ i < 0 := by simpa using hc
    have hn : i.toNat < pt.length := by omega
    conv => whnf
    refine ⟨i.toNat, by omega, hn, hn, ?_⟩
    conv => whnf
    refine ⟨?_, trivial⟩
    show _ = atF pt i
    rw [atF, if_neg h, getD_of hn]
    rfl

end Go.Proofs

namespace Go.Proofs
open Go.Sx

/-- A list turned around from both ends, so far. -/
structure RevSt (xs ys : List Lnk) (i : Nat) : Prop where
  len : ys.length = xs.length
  get : ∀ k, k < xs.length → ys[k]? = if k < i ∨ xs.length - i ≤ k then xs[xs.length - 1 - k]? else xs[k]?

theorem RevSt.zero (xs : List Lnk) : RevSt xs xs 0 := ⟨rfl, fun k hk => by rw [if_neg (by omega)]⟩

theorem RevSt.done {xs ys : List Lnk} {i : Nat} (h : RevSt xs ys i) (hi : ¬ (i : Int) < (xs.length : Int) - 1 - i) : ys = xs.reverse := by
  refine List.ext_getElem? fun k => ?_
  rcases Nat.lt_or_ge k xs.length with hk | hk
  · rw [List.getElem?_reverse hk, h.get k hk]
    split
    · rfl
    · congr 1; omega
  · rw [List.getElem?_eq_none (by rw [h.len]; exact hk), List.getElem?_eq_none (by simp; exact hk)]

theorem RevSt.step {xs ys : List Lnk} {i j : Nat} (h : RevSt xs ys i) (hij : i < j) (hj : j + 1 + i = xs.length) (h1 : i < ys.length) (h2 : j < ys.length) : RevSt xs ((ys.set i ys[j]).set j ys[i]) (i + 1) := by
  refine ⟨by simp [h.len], fun k hk => ?_⟩
  have gi := h.get i (by omega)
  have gj := h.get j (by omega)
  rw [if_neg (by omega), List.getElem?_eq_getElem h1] at gi
  rw [if_neg (by omega), List.getElem?_eq_getElem h2] at gj
  rw [List.getElem?_set, List.getElem?_set]
  by_cases hkj : j = k
  · subst hkj
    rw [if_pos rfl, if_pos (by simp; exact h2), if_pos (by omega), gi]
    congr 1; omega
  · rw [if_neg hkj]
    by_cases hki : i = k
    · subst hki
      rw [if_pos rfl, if_pos h1, if_pos (by omega), gj]
      congr 1; omega
    · rw [if_neg hki, h.get k hk]
      by_cases hc : k < i ∨ xs.length - i ≤ k
      · rw [if_pos hc, if_pos (by omega)]
      · rw [if_neg hc, if_neg (by omega)]

theorem reverse_t (xs : List Lnk) (hb : xs.length ≤ 1000000) : Triple Try.prog 106 [.c (.s 0 0 xs.length 4)] [(0, true, .arr (aLink xs))] 1 (.tup []) [(0, true, .arr (aLink xs.reverse))] := by
  refine triple_of tB_ok Try.func106 rfl Try.call106 rfl ?_
  intro ρ w hH
  conv => whnf
  refine ⟨(xs.length : Int) - 1, wrapId (z := (xs.length : Int) - 1) ⟨by omega, by omega⟩, ?_⟩
  conv => whnf
  refine loop_step tB_ok (G := Nat × List Lnk) 0 [] (fun g => [(2, iv .i64 g.1), (3, iv .i64 ((xs.length : Int) - 1 - g.1))]) (fun g => [(0, true, .arr (aLink g.2))]) (fun g => g.1 ≤ xs.length ∧ RevSt xs g.2 g.1) (fun g => xs.length - g.1) ?_
  conv => whnf
  refine ⟨⟨(0, xs), ⟨Nat.zero_le _, RevSt.zero xs⟩, ?_⟩, ?_⟩
  · conv => whnf
    repeat' (first | exact trivial | exact rfl | refine And.intro ?_ ?_ | ((conv => whnf); first | exact trivial | exact rfl | refine And.intro ?_ ?_ | omega))
    all_goals (show (xs.length : Int) - 1 = (xs.length : Int) - 1 - ((0 : Nat) : Int); omega)
  rintro ⟨i, ys⟩ ⟨hi, hR⟩ ρ1 t1 hρ1
  have hi : i ≤ xs.length := hi
  have hR : RevSt xs ys i := hR
  dsimp only
  have hyl := hR.len
  conv => whnf
  refine ⟨fun hc => ?_, fun hc => ?_⟩
  · have hlt : (i : Int) < (xs.length : Int) - 1 - i := of_decide_eq_true (show decide ((i : Int) < (xs.length : Int) - 1 - i) = true from hc)
    obtain ⟨j, hj⟩ : ∃ j : Nat, (xs.length : Int) - 1 - i = j := ⟨((xs.length : Int) - 1 - i).toNat, by omega⟩
    have hij : i < j := by omega
    have hjl : j + 1 + i = xs.length := by omega
    have h1 : i < ys.length := by omega
    have h2 : j < ys.length := by omega
    have hst := hR.step hij hjl h1 h2
    conv => whnf
    refine ⟨j, hj, by omega, h2, ?_⟩
    conv => whnf
    refine ⟨i, rfl, by omega, h1, ?_⟩
    conv => whnf
    refine ⟨i, rfl, by omega, h1, ys[j], rfl, ?_⟩
    conv => whnf
    refine ⟨j, hj, by omega, by show j < (ys.set i ys[j]).length; rw [List.length_set]; exact h2, ys[i], rfl, ?_⟩
    conv => whnf
    refine ⟨(i : Int) + 1, wrapId (z := (i : Int) + 1) ⟨by omega, by omega⟩, ?_⟩
    conv => whnf
    refine ⟨(xs.length : Int) - 1 - i - 1, wrapId (z := (xs.length : Int) - 1 - i - 1) ⟨by omega, by omega⟩, ?_⟩
    refine ⟨(i + 1, (ys.set i ys[j]).set j ys[i]), ⟨by show i + 1 ≤ xs.length; omega, hst⟩, by show xs.length - (i + 1) < xs.length - i; omega, ?_⟩
    conv => whnf
    refine ⟨rfl, ?_⟩
    conv => whnf
    repeat' (first | exact trivial | exact rfl | refine And.intro ?_ ?_ | ((conv => whnf); first | exact trivial | exact rfl | refine And.intro ?_ ?_ | omega))
    all_goals (show (xs.length : Int) - 1 - i - 1 = (xs.length : Int) - 1 - ((i + 1 : Nat) : Int); omega)
  · have hlt : ¬ (i : Int) < (xs.length : Int) - 1 - i := of_decide_eq_false (show decide ((i : Int) < (xs.length : Int) - 1 - i) = false from hc)
    have he := hR.done hlt
    subst he
    conv => whnf
    repeat' (first | exact trivial | exact rfl | refine And.intro ?_ ?_ | ((conv => whnf); first | exact trivial | exact rfl | refine And.intro ?_ ?_ | omega))

theorem linksK_len (arcs : List Lnk) (ks : List Nat) : (linksK arcs ks).length = ks.length := by simp [linksK]

theorem chain_t (bs : List (Int × Int)) (ls : List Lnk) (a b : Int) (ks : List Nat) (hs : SysOK bs ls) (ha : a < bs.length) (hb : b < bs.length) (hpa : withinF a (-1) (bs.length - 1) = true) (hpb : withinF b (-1) (bs.length - 1) = true)
    (hks : stepsF bs.length (graphF bs ls 0) (shortF bs.length noRev (graphF bs ls 0) (plc bs.length a)).1.last (plc bs.length a) (bs.length + 2) (plc bs.length b) = some ks) (hkl : ks.length ≤ bs.length) :
    Triple Try.prog 48 [.c (.p 0 0 0 0), iv .i64 a, iv .i64 b] (netH bs ls) 3 (.tup [.inl (.s 3 0 (linksK (graphF bs ls 0) ks).reverse.length 4), .inl (.v (.int .i64 0))])
      [(3, true, .arr (aLink (linksK (graphF bs ls 0) ks).reverse))] := by
  refine triple_of tB_ok Try.func48 rfl Try.call48 rfl ?_
  intro ρ w hH
  conv => whnf
  have hnb := hs.nb
  have hnl := hs.nl
  have hgl := graphF_len hs 0
  refine call_step (isPlace_t bs ls a (by omega)) rfl rfl ?_
  conv => whnf
  refine ⟨(by repeat' (first | exact trivial | exact rfl | refine And.intro ?_ ?_ | ((conv => whnf); first | exact trivial | exact rfl | refine And.intro ?_ ?_ | omega))), (by repeat' (first | exact trivial | exact rfl | refine And.intro ?_ ?_ | ((conv => whnf); first | exact trivial | exact rfl | refine And.intro ?_ ?_ | omega))), ?_⟩
  conv => whnf
  rw [hpa]
  refine ⟨fun hc => ?_, fun hc => ?_⟩
  · cases hc
  conv => whnf
  refine call_step (isPlace_t bs ls b (by omega)) rfl rfl ?_
  conv => whnf
  refine ⟨(by repeat' (first | exact trivial | exact rfl | refine And.intro ?_ ?_ | ((conv => whnf); first | exact trivial | exact rfl | refine And.intro ?_ ?_ | omega))), (by repeat' (first | exact trivial | exact rfl | refine And.intro ?_ ?_ | ((conv => whnf); first | exact trivial | exact rfl | refine And.intro ?_ ?_ | omega))), ?_⟩
  conv => whnf
  rw [hpb]
  refine ⟨fun hc => ?_, fun hc => ?_⟩
  · cases hc
  conv => whnf
  refine call_step (graphOf_t bs ls 0 (by omega) hs.boxB (by omega)) rfl rfl ?_
  conv => whnf
  refine ⟨(by repeat' (first | exact trivial | exact rfl | refine And.intro ?_ ?_ | ((conv => whnf); first | exact trivial | exact rfl | refine And.intro ?_ ?_ | omega))), (by repeat' (first | exact trivial | exact rfl | refine And.intro ?_ ?_ | ((conv => whnf); first | exact trivial | exact rfl | refine And.intro ?_ ?_ | omega))), ?_⟩
  conv => whnf
  have hok := graphF_ok hs 0
  generalize graphF bs ls 0 = arcs at *
  generalize bs.length = n at *
  refine call_step (place_t n arcs a) rfl rfl ?_
  conv => whnf
  refine ⟨(by repeat' (first | exact trivial | exact rfl | refine And.intro ?_ ?_ | ((conv => whnf); first | exact trivial | exact rfl | refine And.intro ?_ ?_ | omega))), (by repeat' (first | exact trivial | exact rfl | refine And.intro ?_ ?_ | ((conv => whnf); first | exact trivial | exact rfl | refine And.intro ?_ ?_ | omega))), ?_⟩
  conv => whnf
  refine call_step (plain_t n arcs (plc n a) (by omega) (by omega) hok (plc_le ha)) rfl rfl ?_
  conv => whnf
  refine ⟨(by repeat' (first | exact trivial | exact rfl | refine And.intro ?_ ?_ | ((conv => whnf); first | exact trivial | exact rfl | refine And.intro ?_ ?_ | omega))), (by repeat' (first | exact trivial | exact rfl | refine And.intro ?_ ?_ | ((conv => whnf); first | exact trivial | exact rfl | refine And.intro ?_ ?_ | omega))), ?_⟩
  conv => whnf
  have hlen := shortF_len n noRev arcs (plc n a) hok
  generalize (shortF n noRev arcs (plc n a)).2 = c2 at *
  generalize (shortF n noRev arcs (plc n a)).1 = T at *
  obtain ⟨hl1, hl2, hl3⟩ := hlen
  refine call_step (place_t n arcs b) rfl rfl ?_
  conv => whnf
  refine ⟨(by repeat' (first | exact trivial | exact rfl | refine And.intro ?_ ?_ | ((conv => whnf); first | exact trivial | exact rfl | refine And.intro ?_ ?_ | omega))), (by repeat' (first | exact trivial | exact rfl | refine And.intro ?_ ?_ | ((conv => whnf); first | exact trivial | exact rfl | refine And.intro ?_ ?_ | omega))), ?_⟩
  conv => whnf
  refine loop_step tB_ok (G := Nat × List Nat × List Lnk) 1 [] (fun g => [(12, iv .i64 g.1), (11, .c (.s 9 0 g.2.2.length 4))]) (fun g => [(9, true, .arr (aLink g.2.2))])
    (fun g => (∃ f, stepsF n arcs T.last (plc n a) f g.1 = some g.2.1) ∧ g.2.2 ++ linksK arcs g.2.1 = linksK arcs ks) (fun g => g.2.1.length) ?_
  conv => whnf
  refine ⟨⟨(plc n b, ks, []), ⟨⟨_, hks⟩, rfl⟩, ?_⟩, ?_⟩
  · conv => whnf
    repeat' (first | exact trivial | exact rfl | refine And.intro ?_ ?_ | ((conv => whnf); first | exact trivial | exact rfl | refine And.intro ?_ ?_ | omega))
  rintro ⟨p, r0, out⟩ ⟨⟨f, hst⟩, hout⟩ ρ1 t1 hρ1
  have hst : stepsF n arcs T.last (plc n a) f p = some r0 := hst
  have hout : out ++ linksK arcs r0 = linksK arcs ks := hout
  have hol : out.length ≤ n := by
    have := congrArg List.length hout
    rw [List.length_append, linksK_len, linksK_len] at this; omega
  dsimp only
  conv => whnf
  refine call_step (place_t n arcs a) rfl rfl ?_
  conv => whnf
  refine ⟨(by repeat' (first | exact trivial | exact rfl | refine And.intro ?_ ?_ | ((conv => whnf); first | exact trivial | exact rfl | refine And.intro ?_ ?_ | omega))), (by repeat' (first | exact trivial | exact rfl | refine And.intro ?_ ?_ | ((conv => whnf); first | exact trivial | exact rfl | refine And.intro ?_ ?_ | omega))), ?_⟩
  conv => whnf
  refine ⟨fun hc => ?_, fun hc => ?_⟩
  · have hpi : p ≠ plc n a := by have := (show ((p : Int) != ((plc n a : Nat) : Int)) = true from hc); simp at this; omega
    rcases stepsF_cases hst with h | ⟨_, k1, q, r, f', hla, hbe, hr, rfl⟩
    · exact absurd h.1 hpi
    have hkl := befF_lt hbe
    obtain ⟨hpl, hpe⟩ := List.getElem?_eq_some_iff.1 hla
    have hpm : p < n + 1 := by omega
    have hk64 : ¬ 9223372036854775807 < k1 := by omega
    have hdiv : IntKind.i64.wrap (Int.tdiv T.last[p] 2) = ((k1 / 2 : Nat) : Int) := by rw [hpe]; exact wrapId (z := ((k1 / 2 : Nat) : Int)) ⟨by omega, by omega⟩
    have hbt := before_t n arcs T.last p k1 q T.sum T.there (n + 1) (by omega) hl3 hla hk64 hbe
    have hlk : out ++ [arcs[k1 / 2]] ++ linksK arcs r = linksK arcs ks := by
      rw [← hout, List.append_assoc]
      congr 1
      show _ = arcs.getD (k1 / 2) _ :: linksK arcs r
      rw [List.getD_eq_getElem?_getD, List.getElem?_eq_getElem hkl]; rfl
    obtain ⟨j, hj⟩ : ∃ j, j = k1 / 2 := ⟨_, rfl⟩
    simp only [← hj] at hdiv hkl hlk
    clear hst hla hbe
    conv => whnf
    refine ⟨p, rfl, hpm, hpl, ?_⟩
    conv => whnf
    refine ⟨by decide, (j : Int), hdiv, ?_⟩
    conv => whnf
    refine ⟨j, rfl, hkl, hkl, ?_⟩
    conv => whnf
    refine bs_step tB_ok (aLink [arcs[j]]) rfl rfl ?_
    conv => whnf
    refine ⟨⟨rfl, ⟨rfl, rfl, rfl, rfl, trivial⟩⟩, ?_⟩
    conv => whnf
    refine app_step tB_ok (aLink out) [arcs[j]] (fun _ => rfl) rfl rfl rfl rfl ?_
    conv => whnf
    refine ⟨⟨rfl, rfl, Nat.le_refl _, Nat.le_refl _, by show (out.length + 1) * 33 ≤ _; omega⟩, ?_⟩
    conv => whnf
    refine call_step hbt rfl rfl ?_
    conv => whnf
    refine ⟨(by repeat' (first | exact trivial | exact rfl | refine And.intro ?_ ?_ | ((conv => whnf); first | exact trivial | exact rfl | refine And.intro ?_ ?_ | omega))), (by repeat' (first | exact trivial | exact rfl | refine And.intro ?_ ?_ | ((conv => whnf); first | exact trivial | exact rfl | refine And.intro ?_ ?_ | omega))), ?_⟩
    conv => whnf
    refine ⟨(q, r, out ++ [arcs[j]]), ⟨⟨_, hr⟩, hlk⟩, by show r.length < r.length + 1; omega, ?_⟩
    conv => whnf
    refine ⟨rfl, ?_⟩
    conv => whnf
    repeat' (first | exact trivial | exact rfl | refine And.intro ?_ ?_ | ((conv => whnf); first | exact trivial | exact rfl | refine And.intro ?_ ?_ | omega))
    all_goals first | exact (congrArg aLink app1 : _) | simp
  · have hpi : p = plc n a := by have := (show ((p : Int) != ((plc n a : Nat) : Int)) = false from hc); simp at this; omega
    rcases stepsF_cases hst with h | ⟨h, _⟩
    · obtain ⟨_, rfl⟩ := h
      have hfin : out = linksK arcs ks := by rw [← hout]; simp [linksK]
      subst hfin
      conv => whnf
      refine call_step (reverse_t (linksK arcs ks) (by omega)) rfl rfl ?_
      conv => whnf
      refine ⟨(by repeat' (first | exact trivial | exact rfl | refine And.intro ?_ ?_ | ((conv => whnf); first | exact trivial | exact rfl | refine And.intro ?_ ?_ | omega))), (by repeat' (first | exact trivial | exact rfl | refine And.intro ?_ ?_ | ((conv => whnf); first | exact trivial | exact rfl | refine And.intro ?_ ?_ | omega))), ?_⟩
      conv => whnf
      repeat' (first | exact trivial | exact rfl | refine And.intro ?_ ?_ | ((conv => whnf); first | exact trivial | exact rfl | refine And.intro ?_ ?_ | omega))
      all_goals simp
    · exact absurd hpi h

end Go.Proofs

