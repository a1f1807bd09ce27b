/-
  A part of the proof that a law of dryweightlaw03 answers true: lemmas of a symbolic walk, plain functions, or contracts of the functions walked (X3, Pm11, X6, Sx30, Sx32, Sx33). Conditions: none.
-/
import Derived.Test.YtjjfadfmdodmnaaPart17
import Derived.Test.YtjjfadfmdodmnaaPart13
import Derived.Test.YtjjfadfmdodmnaaPart06
import Derived.Test.YtjjfadfmdodmnaaPart07
import Derived.Lib.AppendZeros
set_option maxRecDepth 100000
namespace Go.Proofs
open Go.Sx

theorem greatest_t (bs : List (Int × Int)) (ls : List Lnk) (a b : Int) (hb1 : bs.length ≤ 1000) (hB : BoxB bs) (hl : ls.length ≤ 8000) (hok : ∀ l ∈ allF bs ls, ArcOK bs.length l) (ha : -1 ≤ a ∧ a < bs.length) (hb : -1 ≤ b ∧ b < bs.length) :
    Triple Try.prog 83 [sysA bs.length ls.length, iv .i64 a, iv .i64 b] (sysH bs ls) 2 (iv .i64 (greatF bs.length (allF bs ls) a b)) [] := by
  have hT := from_t bs ls a hb1 hB hl hok ha
  cases hfr : fromF bs.length (allF bs ls) a with
  | none =>
    rw [hfr] at hT
    have eG : greatF bs.length (allF bs ls) a b = farI := by unfold greatF; rw [hfr]
    rw [eG]
    refine triple_of tB_ok Try.func83 rfl Try.call83 rfl ?_
    intro ρ w hH
    conv => whnf
    refine call_step hT rfl rfl ?_
    conv => whnf
    refine ⟨(by repeat' (first | exact trivial | exact rfl | refine And.intro ?_ ?_ | ((conv => whnf); first | exact trivial | exact rfl | refine And.intro ?_ ?_ | omega))), (by repeat' (first | exact trivial | exact rfl | refine And.intro ?_ ?_ | ((conv => whnf); first | exact trivial | exact rfl | refine And.intro ?_ ?_ | omega))), ?_⟩
    conv => whnf
    refine ⟨fun hc => ?_, fun hc => ?_⟩
    · conv => whnf
      repeat' (first | exact trivial | exact rfl | refine And.intro ?_ ?_ | ((conv => whnf); first | exact trivial | exact rfl | refine And.intro ?_ ?_ | omega))
    · exact absurd hc (by simp)
  | some o =>
    rw [hfr] at hT
    have eG : greatF bs.length (allF bs ls) a b = o.getD (b + 1).toNat 0 := by unfold greatF; rw [hfr]
    have hol := fromF_len hok hfr
    have hi : (b + 1).toNat < o.length := by omega
    rw [eG]
    refine triple_of tB_ok Try.func83 rfl Try.call83 rfl ?_
    intro ρ w hH
    conv => whnf
    refine call_step hT rfl rfl ?_
    conv => whnf
    refine ⟨(by repeat' (first | exact trivial | exact rfl | refine And.intro ?_ ?_ | ((conv => whnf); first | exact trivial | exact rfl | refine And.intro ?_ ?_ | omega))), (by repeat' (first | exact trivial | exact rfl | refine And.intro ?_ ?_ | ((conv => whnf); first | exact trivial | exact rfl | refine And.intro ?_ ?_ | omega))), ?_⟩
    conv => whnf
    refine ⟨fun hc => ?_, fun hc => ?_⟩
    · exact absurd hc (by simp)
    conv => whnf
    refine ⟨b + 1, wrapId (z := b + 1) ⟨by omega, by omega⟩, ?_⟩
    conv => whnf
    refine ⟨(b + 1).toNat, by omega, (by show (b + 1).toNat < o.length; exact hi), hi, ?_⟩
    conv => whnf
    refine ⟨?_, trivial⟩
    show o[(b + 1).toNat] = o.getD (b + 1).toNat 0
    rw [getD_of hi]

theorem agrees_t (bs : List (Int × Int)) (ls : List Lnk) (hb1 : bs.length ≤ 1000) (hB : BoxB bs) (hl : ls.length ≤ 8000) (hok : ∀ l ∈ allF bs ls, ArcOK bs.length l) :
    Triple Try.prog 40 [sysA bs.length ls.length] (sysH bs ls) 2 (bv (fromF bs.length (allF bs ls) (-1)).isSome) [] := by
  refine triple_of tB_ok Try.func40 rfl Try.call40 rfl ?_
  intro ρ w hH
  conv => whnf
  refine call_step (from_t bs ls (-1) hb1 hB hl hok ⟨by omega, by omega⟩) rfl rfl ?_
  conv => whnf
  refine ⟨(by repeat' (first | exact trivial | exact rfl | refine And.intro ?_ ?_ | ((conv => whnf); first | exact trivial | exact rfl | refine And.intro ?_ ?_ | omega))), (by repeat' (first | exact trivial | exact rfl | refine And.intro ?_ ?_ | ((conv => whnf); first | exact trivial | exact rfl | refine And.intro ?_ ?_ | omega))), ?_⟩
  conv => whnf
  repeat' (first | exact trivial | exact rfl | refine And.intro ?_ ?_ | ((conv => whnf); first | exact trivial | exact rfl | refine And.intro ?_ ?_ | omega))

theorem allF_le {bs : List (Int × Int)} {ls : List Lnk} (hs : SysOK bs ls) : (allF bs ls).length ≤ 1680 := by
  have := allF_len bs ls
  have := hs.nb
  have := hs.nl
  omega

theorem refRange_t (bs : List (Int × Int)) (ls : List Lnk) (a b : Int) (hs : SysOK bs ls) (ha : -1 ≤ a ∧ a < bs.length) (hb : -1 ≤ b ∧ b < bs.length)
    (lo hi : Int) (hlo : lo = - greatF bs.length (allF bs ls) b a) (hhi : hi = greatF bs.length (allF bs ls) a b) :
    Triple Try.prog 22 [sysA bs.length ls.length, iv .i64 a, iv .i64 b] (sysH bs ls) 2 (.tup [.inr [.v (.int .i64 lo), .v (.int .i64 hi)], .inl (.v (.int .i64 0))]) [] := by
  refine triple_of tB_ok Try.func22 rfl Try.call22 rfl ?_
  intro ρ w hH
  conv => whnf
  have hnb := hs.nb
  have hnl := hs.nl
  have hal := allF_le hs
  have hpa : placeF bs.length a = true := by simp [placeF]; omega
  have hpb : placeF bs.length b = true := by simp [placeF]; omega
  have hgb := greatF_bd b a (by omega) (by omega) (allF_ok hs)
  refine call_step (refPlace_t bs ls a) rfl rfl ?_
  conv => whnf
  refine ⟨(by repeat' (first | exact trivial | exact rfl | refine And.intro ?_ ?_ | ((conv => whnf); first | exact trivial | exact rfl | refine And.intro ?_ ?_ | omega))), (by repeat' (first | exact trivial | exact rfl | refine And.intro ?_ ?_ | ((conv => whnf); first | exact trivial | exact rfl | refine And.intro ?_ ?_ | omega))), ?_⟩
  conv => whnf
  rw [hpa]
  refine ⟨fun hc => ?_, fun hc => ?_⟩
  · exact absurd hc (by simp)
  conv => whnf
  refine call_step (refPlace_t bs ls b) rfl rfl ?_
  conv => whnf
  refine ⟨(by repeat' (first | exact trivial | exact rfl | refine And.intro ?_ ?_ | ((conv => whnf); first | exact trivial | exact rfl | refine And.intro ?_ ?_ | omega))), (by repeat' (first | exact trivial | exact rfl | refine And.intro ?_ ?_ | ((conv => whnf); first | exact trivial | exact rfl | refine And.intro ?_ ?_ | omega))), ?_⟩
  conv => whnf
  rw [hpb]
  refine ⟨fun hc => ?_, fun hc => ?_⟩
  · exact absurd hc (by simp)
  conv => whnf
  refine call_step (greatest_t bs ls b a (by omega) hs.boxB (by omega) (allF_ok hs) hb ha) rfl rfl ?_
  conv => whnf
  refine ⟨(by repeat' (first | exact trivial | exact rfl | refine And.intro ?_ ?_ | ((conv => whnf); first | exact trivial | exact rfl | refine And.intro ?_ ?_ | omega))), (by repeat' (first | exact trivial | exact rfl | refine And.intro ?_ ?_ | ((conv => whnf); first | exact trivial | exact rfl | refine And.intro ?_ ?_ | omega))), ?_⟩
  conv => whnf
  refine ⟨_, wrapId ⟨by omega, by omega⟩, ?_⟩
  conv => whnf
  refine call_step (greatest_t bs ls a b (by omega) hs.boxB (by omega) (allF_ok hs) ha hb) rfl rfl ?_
  conv => whnf
  refine ⟨(by repeat' (first | exact trivial | exact rfl | refine And.intro ?_ ?_ | ((conv => whnf); first | exact trivial | exact rfl | refine And.intro ?_ ?_ | omega))), (by repeat' (first | exact trivial | exact rfl | refine And.intro ?_ ?_ | ((conv => whnf); first | exact trivial | exact rfl | refine And.intro ?_ ?_ | omega))), ?_⟩
  conv => whnf
  repeat' (first | exact trivial | exact rfl | refine And.intro ?_ ?_ | ((conv => whnf); first | exact trivial | exact rfl | refine And.intro ?_ ?_ | omega))

theorem refRangeErr_t (bs : List (Int × Int)) (ls : List Lnk) (a b : Int) (hp : placeF bs.length a = false ∨ placeF bs.length b = false) :
    Triple Try.prog 22 [sysA bs.length ls.length, iv .i64 a, iv .i64 b] (sysH bs ls) 2 (.tup [.inr [.v (.int .i64 0), .v (.int .i64 0)], .inl (.v (.int .i64 1))]) [] := by
  refine triple_of tB_ok Try.func22 rfl Try.call22 rfl ?_
  intro ρ w hH
  conv => whnf
  refine call_step (refPlace_t bs ls a) rfl rfl ?_
  conv => whnf
  refine ⟨(by repeat' (first | exact trivial | exact rfl | refine And.intro ?_ ?_ | ((conv => whnf); first | exact trivial | exact rfl | refine And.intro ?_ ?_ | omega))), (by repeat' (first | exact trivial | exact rfl | refine And.intro ?_ ?_ | ((conv => whnf); first | exact trivial | exact rfl | refine And.intro ?_ ?_ | omega))), ?_⟩
  conv => whnf
  refine ⟨fun hc => ?_, fun hc => ?_⟩
  · conv => whnf
    repeat' (first | exact trivial | exact rfl | refine And.intro ?_ ?_ | ((conv => whnf); first | exact trivial | exact rfl | refine And.intro ?_ ?_ | omega))
  conv => whnf
  refine call_step (refPlace_t bs ls b) rfl rfl ?_
  conv => whnf
  refine ⟨(by repeat' (first | exact trivial | exact rfl | refine And.intro ?_ ?_ | ((conv => whnf); first | exact trivial | exact rfl | refine And.intro ?_ ?_ | omega))), (by repeat' (first | exact trivial | exact rfl | refine And.intro ?_ ?_ | ((conv => whnf); first | exact trivial | exact rfl | refine And.intro ?_ ?_ | omega))), ?_⟩
  conv => whnf
  refine ⟨fun hc => ?_, fun hc => ?_⟩
  · conv => whnf
    repeat' (first | exact trivial | exact rfl | refine And.intro ?_ ?_ | ((conv => whnf); first | exact trivial | exact rfl | refine And.intro ?_ ?_ | omega))
  · simp at *
    simp_all

theorem refImplied_t (bs : List (Int × Int)) (ls : List Lnk) (l : Lnk) (hs : SysOK bs ls) (hp : properF l bs.length = true) :
    Triple Try.prog 26 [sysA bs.length ls.length, svL l] (sysH bs ls) 2 (.tup [.inl (.v (.bool (decide (greatF bs.length (allF bs ls) l.f l.t ≤ l.m)))), .inl (.v (.int .i64 0))]) [] := by
  refine triple_of tB_ok Try.func26 rfl Try.call26 rfl ?_
  intro ρ w hH
  conv => whnf
  have hnb := hs.nb
  have hnl := hs.nl
  have hp2 := properF_iff.1 hp
  refine call_step (linked_t bs ls l) rfl rfl ?_
  conv => whnf
  refine ⟨(by repeat' (first | exact trivial | exact rfl | refine And.intro ?_ ?_ | ((conv => whnf); first | exact trivial | exact rfl | refine And.intro ?_ ?_ | omega))), (by repeat' (first | exact trivial | exact rfl | refine And.intro ?_ ?_ | ((conv => whnf); first | exact trivial | exact rfl | refine And.intro ?_ ?_ | omega))), ?_⟩
  conv => whnf
  rw [hp]
  refine ⟨fun hc => ?_, fun hc => ?_⟩
  · exact absurd hc (by simp)
  conv => whnf
  refine call_step (greatest_t bs ls l.f l.t (by omega) hs.boxB (by omega) (allF_ok hs) ⟨by omega, by omega⟩ ⟨by omega, by omega⟩) rfl rfl ?_
  conv => whnf
  refine ⟨(by repeat' (first | exact trivial | exact rfl | refine And.intro ?_ ?_ | ((conv => whnf); first | exact trivial | exact rfl | refine And.intro ?_ ?_ | omega))), (by repeat' (first | exact trivial | exact rfl | refine And.intro ?_ ?_ | ((conv => whnf); first | exact trivial | exact rfl | refine And.intro ?_ ?_ | omega))), ?_⟩
  conv => whnf
  repeat' (first | exact trivial | exact rfl | refine And.intro ?_ ?_ | ((conv => whnf); first | exact trivial | exact rfl | refine And.intro ?_ ?_ | omega))

theorem refImpliedErr_t (bs : List (Int × Int)) (ls : List Lnk) (l : Lnk) (hp : properF l bs.length = false) :
    Triple Try.prog 26 [sysA bs.length ls.length, svL l] (sysH bs ls) 2 (.tup [.inl (.v (.bool false)), .inl (.v (.int .i64 1))]) [] := by
  refine triple_of tB_ok Try.func26 rfl Try.call26 rfl ?_
  intro ρ w hH
  conv => whnf
  refine call_step (linked_t bs ls l) rfl rfl ?_
  conv => whnf
  refine ⟨(by repeat' (first | exact trivial | exact rfl | refine And.intro ?_ ?_ | ((conv => whnf); first | exact trivial | exact rfl | refine And.intro ?_ ?_ | omega))), (by repeat' (first | exact trivial | exact rfl | refine And.intro ?_ ?_ | ((conv => whnf); first | exact trivial | exact rfl | refine And.intro ?_ ?_ | omega))), ?_⟩
  conv => whnf
  rw [hp]
  refine ⟨fun hc => ?_, fun hc => ?_⟩
  · conv => whnf
    repeat' (first | exact trivial | exact rfl | refine And.intro ?_ ?_ | ((conv => whnf); first | exact trivial | exact rfl | refine And.intro ?_ ?_ | omega))
  · exact absurd hc (by simp)

/-- A system that the law's net takes. -/
structure NetOK (bs : List (Int × Int)) (ls : List Lnk) : Prop where
  few : bs.length ≤ 14 ∧ ls.length ≤ 40
  sys : SysOK bs ls
  agr : (fromF bs.length (allF bs ls) (-1)).isSome = true

theorem graphF_zero (bs : List (Int × Int)) (ls : List Lnk) : graphF bs ls 0 = allF bs ls := by
  unfold graphF
  exact List.filter_eq_self.2 fun l _ => rfl

theorem boxLinks_has {bs : List (Int × Int)} : ∀ {v i : Nat} (h : i < bs.length), (⟨-1, (v + i : Nat), bs[i].2, 0⟩ : Lnk) ∈ boxLinks v bs ∧ (⟨(v + i : Nat), -1, -bs[i].1, 0⟩ : Lnk) ∈ boxLinks v bs := by
  induction bs with
  | nil => intro v i h; simp at h
  | cons b r ih =>
    intro v i h
    cases i with
    | zero => simp [boxLinks]
    | succ i =>
      have := ih (v := v + 1) (i := i) (by simpa using h)
      simp only [boxLinks, List.mem_cons, List.getElem_cons_succ]
      rw [show v + (i + 1) = v + 1 + i from by omega]
      exact ⟨.inr (.inr this.1), .inr (.inr this.2)⟩

theorem hub_graph (bs : List (Int × Int)) (ls : List Lnk) (k : Int) : Hub bs.length (graphF bs ls k) := by
  intro v hv
  have hb := boxLinks_has (bs := bs) (v := 0) hv
  rw [Nat.zero_add] at hb
  have hk : ∀ l : Lnk, l.i = 0 → keeps k l = true := by
    intro l hl
    unfold keeps
    rw [hl]
    by_cases h : k = 0
    · simp [h]
    · have : (0 : Int) ≠ k := fun h2 => h h2.symm
      simp [this]
  refine ⟨⟨_, List.mem_filter.2 ⟨List.mem_append.2 (.inl hb.1), hk _ rfl⟩, ?_, ?_⟩, ⟨_, List.mem_filter.2 ⟨List.mem_append.2 (.inl hb.2), hk _ rfl⟩, ?_, ?_⟩⟩
  · rfl
  · simp only [plc]; rw [if_neg (by omega)]; omega
  · simp only [plc]; rw [if_neg (by omega)]; omega
  · rfl

theorem NetOK.calm {bs : List (Int × Int)} {ls : List Lnk} (h : NetOK bs ls) : Calm bs ls 0 := by
  obtain ⟨o, ho⟩ := Option.isSome_iff_exists.1 h.agr
  have := allF_len bs ls
  have hf := h.few
  have := from_calm hf.1 (by omega) (allF_ok h.sys) ⟨by omega, by omega⟩ ho
  unfold Calm
  rw [graphF_zero]
  exact this

theorem netNo_t (bs : List (Int × Int)) (ls : List Lnk) (h : ¬ NetOK bs ls) : Triple Try.prog 20 [sysA bs.length ls.length] (sysH bs ls) 2 (.tup [.inl (.v (.pointer none)), .inl (.b false)]) [] := by
  refine triple_of tB_ok Try.func20 rfl Try.call20 rfl ?_
  intro ρ w hH
  conv => whnf
  refine call_step (few_t bs ls) rfl rfl ?_
  conv => whnf
  refine ⟨(by repeat' (first | exact trivial | exact rfl | refine And.intro ?_ ?_ | ((conv => whnf); first | exact trivial | exact rfl | refine And.intro ?_ ?_ | omega))), (by repeat' (first | exact trivial | exact rfl | refine And.intro ?_ ?_ | ((conv => whnf); first | exact trivial | exact rfl | refine And.intro ?_ ?_ | omega))), ?_⟩
  conv => whnf
  refine ⟨fun hc => ?_, fun hc => ?_⟩
  · conv => whnf
    repeat' (first | exact trivial | exact rfl | refine And.intro ?_ ?_ | ((conv => whnf); first | exact trivial | exact rfl | refine And.intro ?_ ?_ | omega))
  have hf : fewF bs ls = true := by simpa using (show (!fewF bs ls) = false from hc)
  simp only [fewF, Bool.and_eq_true, decide_eq_true_eq] at hf
  conv => whnf
  refine call_step (refCheck_t bs ls (by omega) (by omega)) rfl rfl ?_
  conv => whnf
  refine ⟨(by repeat' (first | exact trivial | exact rfl | refine And.intro ?_ ?_ | ((conv => whnf); first | exact trivial | exact rfl | refine And.intro ?_ ?_ | omega))), (by repeat' (first | exact trivial | exact rfl | refine And.intro ?_ ?_ | ((conv => whnf); first | exact trivial | exact rfl | refine And.intro ?_ ?_ | omega))), ?_⟩
  conv => whnf
  refine ⟨fun hc => ?_, fun hc => ?_⟩
  · conv => whnf
    repeat' (first | exact trivial | exact rfl | refine And.intro ?_ ?_ | ((conv => whnf); first | exact trivial | exact rfl | refine And.intro ?_ ?_ | omega))
  have hk : checkF bs ls = 0 := by simpa using hc
  have hs := checkF_ok.1 hk
  conv => whnf
  refine call_step (agrees_t bs ls (by omega) hs.boxB (by omega) (allF_ok hs)) rfl rfl ?_
  conv => whnf
  refine ⟨(by repeat' (first | exact trivial | exact rfl | refine And.intro ?_ ?_ | ((conv => whnf); first | exact trivial | exact rfl | refine And.intro ?_ ?_ | omega))), (by repeat' (first | exact trivial | exact rfl | refine And.intro ?_ ?_ | ((conv => whnf); first | exact trivial | exact rfl | refine And.intro ?_ ?_ | omega))), ?_⟩
  conv => whnf
  refine ⟨fun hc => ?_, fun hc => ?_⟩
  · conv => whnf
    repeat' (first | exact trivial | exact rfl | refine And.intro ?_ ?_ | ((conv => whnf); first | exact trivial | exact rfl | refine And.intro ?_ ?_ | omega))
  have ha : (fromF bs.length (allF bs ls) (-1)).isSome = true := by simpa using (show (!(fromF bs.length (allF bs ls) (-1)).isSome) = false from hc)
  exact (h ⟨hf, hs, ha⟩).elim

theorem netYes_t (bs : List (Int × Int)) (ls : List Lnk) (h : NetOK bs ls) : Triple Try.prog 20 [sysA bs.length ls.length] (sysH bs ls) 2 (.tup [.inl (.p 2 0 0 0), .inl (.b true)])
      [(2, true, netC 3 4 bs.length ls.length), (3, true, .arr (aSpan bs)), (4, true, .arr (aLink ls))] := by
  refine triple_of tB_ok Try.func20 rfl Try.call20 rfl ?_
  intro ρ w hH
  conv => whnf
  have hf := h.few
  have hs := h.sys
  have hfe : fewF bs ls = true := by simp [fewF]; omega
  refine call_step (few_t bs ls) rfl rfl ?_
  conv => whnf
  refine ⟨(by repeat' (first | exact trivial | exact rfl | refine And.intro ?_ ?_ | ((conv => whnf); first | exact trivial | exact rfl | refine And.intro ?_ ?_ | omega))), (by repeat' (first | exact trivial | exact rfl | refine And.intro ?_ ?_ | ((conv => whnf); first | exact trivial | exact rfl | refine And.intro ?_ ?_ | omega))), ?_⟩
  conv => whnf
  rw [hfe]
  refine ⟨fun hc => ?_, fun hc => ?_⟩
  · exact absurd hc (by simp)
  conv => whnf
  refine call_step (refCheck_t bs ls (by omega) (by omega)) rfl rfl ?_
  conv => whnf
  refine ⟨(by repeat' (first | exact trivial | exact rfl | refine And.intro ?_ ?_ | ((conv => whnf); first | exact trivial | exact rfl | refine And.intro ?_ ?_ | omega))), (by repeat' (first | exact trivial | exact rfl | refine And.intro ?_ ?_ | ((conv => whnf); first | exact trivial | exact rfl | refine And.intro ?_ ?_ | omega))), ?_⟩
  conv => whnf
  rw [checkF_ok.2 hs]
  refine ⟨fun hc => ?_, fun hc => ?_⟩
  · exact absurd hc (by simp)
  conv => whnf
  refine call_step (agrees_t bs ls (by omega) hs.boxB (by omega) (allF_ok hs)) rfl rfl ?_
  conv => whnf
  refine ⟨(by repeat' (first | exact trivial | exact rfl | refine And.intro ?_ ?_ | ((conv => whnf); first | exact trivial | exact rfl | refine And.intro ?_ ?_ | omega))), (by repeat' (first | exact trivial | exact rfl | refine And.intro ?_ ?_ | ((conv => whnf); first | exact trivial | exact rfl | refine And.intro ?_ ?_ | omega))), ?_⟩
  conv => whnf
  rw [h.agr]
  refine ⟨fun hc => ?_, fun hc => ?_⟩
  · exact absurd hc (by simp)
  conv => whnf
  refine call_step (newNone_t bs ls hs h.calm) rfl rfl ?_
  conv => whnf
  refine ⟨(by repeat' (first | exact trivial | exact rfl | refine And.intro ?_ ?_ | ((conv => whnf); first | exact trivial | exact rfl | refine And.intro ?_ ?_ | omega))), (by repeat' (first | exact trivial | exact rfl | refine And.intro ?_ ?_ | ((conv => whnf); first | exact trivial | exact rfl | refine And.intro ?_ ?_ | omega))), ?_⟩
  conv => whnf
  repeat' (first | exact trivial | exact rfl | refine And.intro ?_ ?_ | ((conv => whnf); first | exact trivial | exact rfl | refine And.intro ?_ ?_ | omega))

end Go.Proofs

/-
  Plain lemmas, part 11: the way back from a place to the start, where relaxing has ended. Conditions: none; definitions and plain lemmas.
-/
namespace Go
namespace Proofs

theorem key_befF {n : Nat} {rev : Nat → Bool} {arcs : List Lnk} {k : Nat} {e : Edg} (he : e ∈ edgs n rev 0 arcs) (hk : e.k = (k : Int)) :
    keyE n arcs k = e ∧ befF n arcs k = some e.a ∧ ∃ l, arcs[k / 2]? = some l ∧ ((k % 2 = 0 ∧ e.a = plc n l.f ∧ e.b = plc n l.t ∧ e.w = l.m) ∨ (k % 2 = 1 ∧ rev (k / 2) = true ∧ e.a = plc n l.t ∧ e.b = plc n l.f ∧ e.w = -l.m)) := by
  refine ⟨by rw [← hk]; exact edgs_key e he, ?_⟩
  obtain ⟨j, l, hj, h | ⟨hr, h⟩⟩ := edgs_mem.1 he
  · subst h
    have hk2 : k = 2 * j := by have : 2 * ((0 + j : Nat) : Int) = (k : Int) := hk; omega
    have e1 : k / 2 = j := by omega
    have e2 : k % 2 = 0 := by omega
    unfold befF
    rw [e1, hj, e2]
    exact ⟨rfl, l, rfl, .inl ⟨rfl, rfl, rfl, rfl⟩⟩
  · subst h
    have hk2 : k = 2 * j + 1 := by have : 2 * ((0 + j : Nat) : Int) + 1 = (k : Int) := hk; omega
    have e1 : k / 2 = j := by omega
    have e2 : k % 2 = 1 := by omega
    unfold befF
    rw [e1, hj, e2]
    rw [Nat.zero_add] at hr
    exact ⟨rfl, l, rfl, .inr ⟨rfl, hr, rfl, rfl, rfl⟩⟩

/-- The arcs of a way back, from a place to the start: all tight; a clock falls along it. -/
def StepP (n : Nat) (arcs : List Lnk) (E : List Edg) (T : Tr) (ts : Nat → Nat) (src : Nat) : List Nat → Nat → Prop
  | [], p => p = src
  | k :: r, p => p ≠ src ∧ keyE n arcs k ∈ E ∧ (keyE n arcs k).k = (k : Int) ∧ (keyE n arcs k).b = p ∧ T.last.getD p (-1) = (k : Int) ∧ T.sum.getD (keyE n arcs k).a 0 + (keyE n arcs k).w = T.sum.getD p 0 ∧ ts (keyE n arcs k).a < ts p ∧ StepP n arcs E T ts src r (keyE n arcs k).a

structure Tree (n : Nat) (arcs : List Lnk) (E : List Edg) (src : Nat) (T : Tr) (ts : Nat → Nat) : Prop where
  bf : ∃ r, BF E (n + 1) src r 0 ts T
  fix : Fix E T
  all : ∀ v, v ≤ n → T.there.getD v false = true
  src0 : T.sum.getD src 0 = 0 ∧ T.last.getD src (-1) = -1

theorem tree_of {n : Nat} {rev : Nat → Bool} {arcs : List Lnk} {src k : Nat} (hok : ∀ l ∈ arcs, ArcOK n l) (hub : Hub n arcs) (hs : src ≤ n) (h : (roundsF n rev arcs k (startF n src)).2 = -1) :
    ∃ ts, Tree n arcs (edgs n rev 0 arcs) src (roundsF n rev arcs k (startF n src)).1 ts := by
  obtain ⟨hf, ts, r, hB⟩ := rounds_fix hok hs h
  obtain ⟨hall, hp⟩ := rounds_hub hok hub hs h
  have hlow := hB.low (fun v => (roundsF n rev arcs k (startF n src)).1.sum.getD v 0) hp src hB.so.1 hB.so.2.1
  have h0 := hB.so.2.2.1
  refine ⟨ts, ⟨r, hB⟩, hf, hall, by omega, ?_⟩
  rcases hB.so.2.2.2 with h1 | h1
  · omega
  · exact h1

theorem Tree.pot {n : Nat} {arcs : List Lnk} {E : List Edg} {src : Nat} {T : Tr} {ts : Nat → Nat} (h : Tree n arcs E src T ts) (hE : EOK (n + 1) E) : Pot (fun v => T.sum.getD v 0) E :=
  fix_pot h.fix fun e he => h.all _ (by have := (hE e he).1; omega)

theorem Tree.low {n : Nat} {arcs : List Lnk} {E : List Edg} {src : Nat} {T : Tr} {ts : Nat → Nat} (h : Tree n arcs E src T ts) {q : Nat → Int} (hq : Pot q E) {v : Nat} (hv : v ≤ n) : q v ≤ q src + T.sum.getD v 0 := by
  obtain ⟨r, hB⟩ := h.bf
  exact hB.low q hq v (by omega) (h.all v hv)

theorem Tree.steps {n : Nat} {rev : Nat → Bool} {arcs : List Lnk} {src : Nat} {T : Tr} {ts : Nat → Nat} (h : Tree n arcs (edgs n rev 0 arcs) src T ts) (hok : ∀ l ∈ arcs, ArcOK n l) :
    ∀ (t v : Nat), ts v ≤ t → v ≤ n → ∃ ks, (∀ f, ks.length < f → stepsF n arcs T.last src f v = some ks) ∧ StepP n arcs (edgs n rev 0 arcs) T ts src ks v := by
  have hE : EOK (n + 1) (edgs n rev 0 arcs) := edgs_ok hok
  obtain ⟨r, hB⟩ := h.bf
  intro t
  induction t with
  | zero =>
    intro v ht hv
    have hs : v = src := by
      by_cases hl : T.last.getD v (-1) = -1
      · exact (hB.root v (by omega) hl).1 (h.all v hv)
      · have := (hB.par v (by omega) hl).2.1; omega
    refine ⟨[], fun f hf => ?_, hs⟩
    obtain ⟨f, rfl⟩ : ∃ g, f = g + 1 := ⟨f - 1, by simp at hf; omega⟩
    unfold stepsF
    rw [if_pos hs]
  | succ t ih =>
    intro v ht hv
    by_cases hs : v = src
    · refine ⟨[], fun f hf => ?_, hs⟩
      obtain ⟨f, rfl⟩ : ∃ g, f = g + 1 := ⟨f - 1, by simp at hf; omega⟩
      unfold stepsF
      rw [if_pos hs]
    · have hl : T.last.getD v (-1) ≠ -1 := fun hl => hs ((hB.root v (by omega) hl).1 (h.all v hv))
      obtain ⟨h1, h2, e, he, hk, hb, hta, hL, htt⟩ := hB.par v (by omega) hl
      have hfx := (h.fix e he hta).2
      rw [hb] at hfx
      have htt : T.sum.getD e.a 0 + e.w = T.sum.getD v 0 ∧ ts e.a < ts v := by
        rcases htt with h3 | h3
        · omega
        · exact h3
      have hkn : 0 ≤ e.k := (hE e he).2.2
      obtain ⟨k, hkk⟩ : ∃ k : Nat, e.k = (k : Int) := ⟨e.k.toNat, by omega⟩
      obtain ⟨g1, g2, g3⟩ := key_befF he hkk
      have hea : e.a ≤ n := by have := (hE e he).1; omega
      obtain ⟨ks, hst, hsp⟩ := ih e.a (by omega) hea
      have hvl : v < T.last.length := by rw [hB.ll]; omega
      have hget : T.last[v]? = some (k : Int) := by
        rw [← hkk, hk, List.getD_eq_getElem?_getD, List.getElem?_eq_getElem hvl]; rfl
      refine ⟨k :: ks, fun f hf => ?_, ?_⟩
      · obtain ⟨f, rfl⟩ : ∃ g, f = g + 1 := ⟨f - 1, by simp at hf; omega⟩
        unfold stepsF
        rw [if_neg hs, hget]
        simp only [Int.toNat_natCast, g2]
        rw [if_pos (by omega), hst f (by simpa using hf)]
        rfl
      · unfold StepP
        rw [g1]
        exact ⟨hs, he, hkk, hb, by rw [← hkk, hk], htt.1, htt.2, hsp⟩

theorem StepP.nodes {n : Nat} {arcs : List Lnk} {E : List Edg} {T : Tr} {ts : Nat → Nat} {src : Nat} (hE : EOK (n + 1) E) : ∀ {ks : List Nat} {p : Nat}, p ≤ n → StepP n arcs E T ts src ks p →
    (∀ k ∈ ks, ts (keyE n arcs k).b ≤ ts p ∧ (keyE n arcs k).b ≤ n ∧ (keyE n arcs k).b ≠ src ∧ keyE n arcs k ∈ E ∧ (keyE n arcs k).k = (k : Int) ∧ T.sum.getD (keyE n arcs k).a 0 + (keyE n arcs k).w = T.sum.getD (keyE n arcs k).b 0) ∧
    (ks.map fun (k : Nat) => (keyE n arcs k).b).Nodup
  | [], p, _, _ => ⟨fun k hk => (by cases hk), List.nodup_nil⟩
  | k :: r, p, hp, h => by
    obtain ⟨h1, h2, h3, h4, h5, h6, h7, h8⟩ := h
    have ha : (keyE n arcs k).a ≤ n := by have := (hE _ h2).1; omega
    obtain ⟨i1, i2⟩ := StepP.nodes hE ha h8
    refine ⟨fun k' hk' => ?_, ?_⟩
    · rcases List.mem_cons.1 hk' with rfl | hk'
      · rw [h4]; exact ⟨Nat.le_refl _, hp, h1, h2, h3, h6⟩
      · obtain ⟨j1, j2, j3, j4, j5, j6⟩ := i1 k' hk'
        exact ⟨by omega, j2, j3, j4, j5, j6⟩
    · rw [List.map_cons, List.nodup_cons]
      refine ⟨fun hm => ?_, i2⟩
      obtain ⟨k', hk', he⟩ := List.mem_map.1 hm
      have := (i1 k' hk').1
      rw [he, h4] at this
      omega

theorem nodup_len {N : Nat} {l : List Nat} (hn : l.Nodup) (hl : ∀ x ∈ l, x < N) : l.length ≤ N := by
  rcases Nat.lt_or_ge N l.length with h | h
  · exfalso
    obtain ⟨i, j, hij, hj, he⟩ := pigeon N (fun i => l.getD i 0) (fun i hi => by
      show l.getD i 0 < N
      have : i < l.length := by omega
      rw [List.getD_eq_getElem?_getD, List.getElem?_eq_getElem this]
      exact hl _ (List.getElem_mem this))
    have hi' : i < l.length := by omega
    have hj' : j < l.length := by omega
    simp only [List.getD_eq_getElem?_getD, List.getElem?_eq_getElem hi', List.getElem?_eq_getElem hj', Option.getD_some] at he
    have := List.pairwise_iff_getElem.1 hn i j hi' hj' hij
    exact this he
  · exact h

theorem StepP.len {n : Nat} {arcs : List Lnk} {E : List Edg} {T : Tr} {ts : Nat → Nat} {src : Nat} {ks : List Nat} {p : Nat} (hE : EOK (n + 1) E) (hs : src ≤ n) (hp : p ≤ n) (h : StepP n arcs E T ts src ks p) : ks.length ≤ n := by
  obtain ⟨h1, h2⟩ := h.nodes hE hp
  have := nodup_len (N := n + 1) (l := src :: ks.map fun (k : Nat) => (keyE n arcs k).b) (by
    rw [List.nodup_cons]
    refine ⟨fun hm => ?_, h2⟩
    obtain ⟨k, hk, he⟩ := List.mem_map.1 hm
    exact (h1 k hk).2.2.1 he) (fun x hx => by
    rcases List.mem_cons.1 hx with rfl | hx
    · omega
    · obtain ⟨k, hk, rfl⟩ := List.mem_map.1 hx
      have := (h1 k hk).2.1; omega)
  simpa using this

theorem Tree.path {n : Nat} {rev : Nat → Bool} {arcs : List Lnk} {src v : Nat} {T : Tr} {ts : Nat → Nat} (h : Tree n arcs (edgs n rev 0 arcs) src T ts) (hok : ∀ l ∈ arcs, ArcOK n l) (hs : src ≤ n) (hv : v ≤ n) :
    ∃ ks, stepsF n arcs T.last src (n + 2) v = some ks ∧ ks.length ≤ n ∧ StepP n arcs (edgs n rev 0 arcs) T ts src ks v := by
  obtain ⟨ks, h1, h2⟩ := h.steps hok _ v (Nat.le_refl _) hv
  have := h2.len (edgs_ok hok) hs hv
  exact ⟨ks, h1 _ (by omega), this, h2⟩

/-- The links of a way back. -/
def linksK (arcs : List Lnk) (ks : List Nat) : List Lnk := ks.map fun k => arcs.getD (k / 2) ⟨0, 0, 0, 0⟩

end Proofs
end Go

namespace Go.Proofs
open Go.Sx

theorem lnk_eq (a b : Lnk) : ([a.f, a.t, a.m, a.i] == [b.f, b.t, b.m, b.i]) = decide (a = b) := by
  cases a; cases b
  rw [Bool.eq_iff_iff]
  simp

theorem known_t (xs : List Lnk) (x : Lnk) (hb : xs.length ≤ 1000000) : Triple Try.prog 134 [.c (.s 0 0 xs.length 4), svL x] [(0, false, .arr (aLink xs))] 1 (bv (decide (x ∈ xs))) [] := by
  refine triple_of tB_ok Try.func134 rfl Try.call134 rfl ?_
  intro ρ w hH
  conv => whnf
  refine loop_step tB_ok (G := Nat) 0 [] (fun i => [(5, iv .i64 i)]) (fun _ => []) (fun i => i ≤ xs.length ∧ ∀ y ∈ xs.take i, y ≠ x) (fun i => xs.length - i) ?_
  conv => whnf
  refine ⟨⟨0, ⟨Nat.zero_le _, by simp⟩, ?_⟩, ?_⟩
  · conv => whnf
    repeat' (first | exact trivial | exact rfl | refine And.intro ?_ ?_ | ((conv => whnf); first | exact trivial | exact rfl | refine And.intro ?_ ?_ | omega))
  intro i hi ρ1 t1 hρ1
  obtain ⟨hi, hn⟩ := hi
  conv => whnf
  refine ⟨fun hc => ?_, fun hc => ?_⟩
  · have hlt : i < xs.length := by simpa using hc
    conv => whnf
    refine ⟨i, rfl, hlt, hlt, ?_⟩
    conv => whnf
    refine ⟨fun hc => ?_, fun hc => ?_⟩
    · have he : xs[i] = x := by
        have := (lnk_eq xs[i] x).symm.trans hc
        exact of_decide_eq_true this
      conv => whnf
      refine ⟨?_, trivial⟩
      show true = decide (x ∈ xs)
      rw [decide_eq_true]
      rw [← he]; exact List.getElem_mem hlt
    · have he : xs[i] ≠ x := by
        have := (lnk_eq xs[i] x).symm.trans hc
        exact of_decide_eq_false this
      conv => whnf
      refine ⟨(i : Int) + 1, wrapId (z := (i : Int) + 1) ⟨by omega, by omega⟩, ?_⟩
      refine ⟨i + 1, ⟨hlt, fun y hy => ?_⟩, by show xs.length - (i + 1) < xs.length - i; omega, ?_⟩
      · rw [take_snoc hlt] at hy
        rcases List.mem_append.1 hy with hy | hy
        · exact hn y hy
        · simp at hy; rw [hy]; exact he
      conv => whnf
      refine ⟨rfl, ?_⟩
      conv => whnf
      repeat' (first | exact trivial | exact rfl | refine And.intro ?_ ?_ | ((conv => whnf); first | exact trivial | exact rfl | refine And.intro ?_ ?_ | omega))
  have hie : i = xs.length := by simp at hc; omega
  subst hie
  rw [List.take_length] at hn
  conv => whnf
  refine ⟨?_, trivial⟩
  show false = decide (x ∈ xs)
  rw [decide_eq_false]
  intro hm
  exact hn x hm rfl

/-- Following a chain of links: the sum and where it ends. -/
def chainF (arcs : List Lnk) : List Lnk → Int → Int → Option (Int × Int)
  | [], at', s => some (s, at')
  | c :: r, at', s => if c ∈ arcs ∧ c.f = at' then chainF arcs r c.t (s + c.m) else none

def chainR (arcs ch : List Lnk) (a b : Int) : Int × Bool := match chainF arcs ch a 0 with
  | some (s, e) => (s, e == b)
  | none => (0, false)

theorem chained_t (bs : List (Int × Int)) (ls ch : List Lnk) (a b : Int) (hs : SysOK bs ls) (hc : ch.length ≤ 3000) :
    Triple Try.prog 99 [sysA bs.length ls.length, iv .i64 a, iv .i64 b, .c (.s 2 0 ch.length 4)] ((2, false, .arr (aLink ch)) :: sysH bs ls) 3 (.tup [.inl (.v (.int .i64 (chainR (allF bs ls) ch a b).1)), .inl (.v (.bool (chainR (allF bs ls) ch a b).2))]) [] := by
  refine triple_of tB_ok Try.func99 rfl Try.call99 rfl ?_
  intro ρ w hH
  conv => whnf
  have hnb := hs.nb
  have hnl := hs.nl
  have hal := allF_le hs
  have hok := allF_ok hs
  refine call_step (refAll_t bs ls (by omega) hs.boxB (by omega)) rfl rfl ?_
  conv => whnf
  refine ⟨(by repeat' (first | exact trivial | exact rfl | refine And.intro ?_ ?_ | ((conv => whnf); first | exact trivial | exact rfl | refine And.intro ?_ ?_ | omega))), (by repeat' (first | exact trivial | exact rfl | refine And.intro ?_ ?_ | ((conv => whnf); first | exact trivial | exact rfl | refine And.intro ?_ ?_ | omega))), ?_⟩
  conv => whnf
  have hR : chainR (allF bs ls) ch a b = match chainF (allF bs ls) ch a 0 with
    | some (s, e) => (s, e == b)
    | none => (0, false) := rfl
  generalize chainR (allF bs ls) ch a b = R at *
  generalize allF bs ls = arcs at *
  refine loop_step tB_ok (G := Nat × Int × Int) 0 [] (fun g => [(13, iv .i64 g.1), (11, iv .i64 g.2.1), (12, iv .i64 g.2.2)]) (fun _ => []) (fun g => g.1 ≤ ch.length ∧ (-(33554432 * (g.1 : Int)) ≤ g.2.1 ∧ g.2.1 ≤ 33554432 * (g.1 : Int)) ∧ chainF arcs ch a 0 = chainF arcs (ch.drop g.1) g.2.2 g.2.1) (fun g => ch.length - g.1) ?_
  conv => whnf
  refine ⟨⟨(0, 0, a), ⟨Nat.zero_le _, ⟨by simp, by simp⟩, rfl⟩, ?_⟩, ?_⟩
  · conv => whnf
    repeat' (first | exact trivial | exact rfl | refine And.intro ?_ ?_ | ((conv => whnf); first | exact trivial | exact rfl | refine And.intro ?_ ?_ | omega))
  rintro ⟨i, s, at'⟩ ⟨hi, hsb, hF⟩ ρ1 t1 hρ1
  have hi : i ≤ ch.length := hi
  have hsb : -(33554432 * (i : Int)) ≤ s ∧ s ≤ 33554432 * (i : Int) := hsb
  have hF : chainF arcs ch a 0 = chainF arcs (ch.drop i) at' s := hF
  dsimp only
  conv => whnf
  refine ⟨fun hc => ?_, fun hc => ?_⟩
  · have hlt : i < ch.length := by simpa using hc
    rw [List.drop_eq_getElem_cons hlt] at hF
    conv => whnf
    refine ⟨i, rfl, hlt, hlt, ?_⟩
    conv => whnf
    refine call_step (known_t arcs ch[i] (by omega)) rfl rfl ?_
    conv => whnf
    refine ⟨(by repeat' (first | exact trivial | exact rfl | refine And.intro ?_ ?_ | ((conv => whnf); first | exact trivial | exact rfl | refine And.intro ?_ ?_ | omega))), (by repeat' (first | exact trivial | exact rfl | refine And.intro ?_ ?_ | ((conv => whnf); first | exact trivial | exact rfl | refine And.intro ?_ ?_ | omega))), ?_⟩
    conv => whnf
    refine ⟨fun hc => ?_, fun hc => ?_⟩
    · have hk : ch[i] ∉ arcs := by simpa using (show (!decide (ch[i] ∈ arcs)) = true from hc)
      have e : R = (0, false) := by rw [hR, hF, chainF, if_neg (fun h => hk h.1)]
      rw [e]
      conv => whnf
      repeat' (first | exact trivial | exact rfl | refine And.intro ?_ ?_ | ((conv => whnf); first | exact trivial | exact rfl | refine And.intro ?_ ?_ | omega))
    have hk : ch[i] ∈ arcs := by simpa using (show (!decide (ch[i] ∈ arcs)) = false from hc)
    conv => whnf
    refine ⟨i, rfl, hlt, hlt, ?_⟩
    conv => whnf
    refine ⟨fun hc => ?_, fun hc => ?_⟩
    · have hf : ch[i].f ≠ at' := by simpa using (show (ch[i].f != at') = true from hc)
      have e : R = (0, false) := by rw [hR, hF, chainF, if_neg (fun h => hf h.2)]
      rw [e]
      conv => whnf
      repeat' (first | exact trivial | exact rfl | refine And.intro ?_ ?_ | ((conv => whnf); first | exact trivial | exact rfl | refine And.intro ?_ ?_ | omega))
    have hf : ch[i].f = at' := by simpa using (show (ch[i].f != at') = false from hc)
    have hm := (hok _ hk).2.2
    rw [chainF, if_pos ⟨hk, hf⟩] at hF
    conv => whnf
    refine ⟨i, rfl, hlt, hlt, ?_⟩
    conv => whnf
    refine ⟨s + ch[i].m, wrapId (z := s + ch[i].m) ⟨by omega, by omega⟩, ?_⟩
    conv => whnf
    refine ⟨i, rfl, hlt, hlt, ?_⟩
    conv => whnf
    refine ⟨(i : Int) + 1, wrapId (z := (i : Int) + 1) ⟨by omega, by omega⟩, ?_⟩
    refine ⟨(i + 1, s + ch[i].m, ch[i].t), ⟨hlt, ⟨by show -(33554432 * ((i + 1 : Nat) : Int)) ≤ s + ch[i].m; omega, by show s + ch[i].m ≤ 33554432 * ((i + 1 : Nat) : Int); omega⟩, hF⟩, by show ch.length - (i + 1) < ch.length - i; omega, ?_⟩
    conv => whnf
    refine ⟨rfl, ?_⟩
    conv => whnf
    repeat' (first | exact trivial | exact rfl | refine And.intro ?_ ?_ | ((conv => whnf); first | exact trivial | exact rfl | refine And.intro ?_ ?_ | omega))
  have hie : i = ch.length := by simp at hc; omega
  rw [hie, List.drop_length] at hF
  have e : R = (s, at' == b) := by rw [hR, hF]; rfl
  rw [e]
  conv => whnf
  repeat' (first | exact trivial | exact rfl | refine And.intro ?_ ?_ | ((conv => whnf); first | exact trivial | exact rfl | refine And.intro ?_ ?_ | omega))

def checkChainF (bs : List (Int × Int)) (ls : List Lnk) (a b : Int) (ch : List Lnk) : Int × Int :=
  if checkF bs ls ≠ 0 then (0, checkF bs ls) else if placeF bs.length a = false ∨ placeF bs.length b = false then (0, 1) else if 2000 < ch.length then (0, 2) else
  if (chainR (allF bs ls) ch a b).2 then ((chainR (allF bs ls) ch a b).1, 0) else (0, 8)

theorem refCheckChain_t (bs : List (Int × Int)) (ls ch : List Lnk) (a b : Int) (hb : bs.length ≤ 1000000) (hl : ls.length ≤ 1000000) (hcl : ch.length ≤ 1000000) :
    Triple Try.prog 50 [sysA bs.length ls.length, iv .i64 a, iv .i64 b, .c (.s 2 0 ch.length 4)] ((2, false, .arr (aLink ch)) :: sysH bs ls) 3 (.tup [.inl (.v (.int .i64 (checkChainF bs ls a b ch).1)), .inl (.v (.int .i64 (checkChainF bs ls a b ch).2))]) [] := by
  have hF : checkChainF bs ls a b ch = if checkF bs ls ≠ 0 then (0, checkF bs ls) else if placeF bs.length a = false ∨ placeF bs.length b = false then (0, 1) else if 2000 < ch.length then (0, 2) else
    if (chainR (allF bs ls) ch a b).2 then ((chainR (allF bs ls) ch a b).1, 0) else (0, 8) := rfl
  generalize checkChainF bs ls a b ch = R at *
  refine triple_of tB_ok Try.func50 rfl Try.call50 rfl ?_
  intro ρ w hH
  conv => whnf
  refine call_step (refCheck_t bs ls hb hl) rfl rfl ?_
  conv => whnf
  refine ⟨(by repeat' (first | exact trivial | exact rfl | refine And.intro ?_ ?_ | ((conv => whnf); first | exact trivial | exact rfl | refine And.intro ?_ ?_ | omega))), (by repeat' (first | exact trivial | exact rfl | refine And.intro ?_ ?_ | ((conv => whnf); first | exact trivial | exact rfl | refine And.intro ?_ ?_ | omega))), ?_⟩
  conv => whnf
  by_cases hck : checkF bs ls = 0
  · rw [if_neg (by simpa using hck)] at hF
    have hs := checkF_ok.1 hck
    rw [hck]
    refine ⟨fun hc => ?_, fun hc => ?_⟩
    · exact absurd hc (by simp)
    conv => whnf
    refine call_step (refPlace_t bs ls a) rfl rfl ?_
    conv => whnf
    refine ⟨(by repeat' (first | exact trivial | exact rfl | refine And.intro ?_ ?_ | ((conv => whnf); first | exact trivial | exact rfl | refine And.intro ?_ ?_ | omega))), (by repeat' (first | exact trivial | exact rfl | refine And.intro ?_ ?_ | ((conv => whnf); first | exact trivial | exact rfl | refine And.intro ?_ ?_ | omega))), ?_⟩
    conv => whnf
    refine ⟨fun hc => ?_, fun hc => ?_⟩
    · have h1 : placeF bs.length a = false := by simpa using (show (!placeF bs.length a) = true from hc)
      rw [if_pos (.inl h1)] at hF
      rw [hF]
      conv => whnf
      repeat' (first | exact trivial | exact rfl | refine And.intro ?_ ?_ | ((conv => whnf); first | exact trivial | exact rfl | refine And.intro ?_ ?_ | omega))
    have h1 : placeF bs.length a = true := by simpa using (show (!placeF bs.length a) = false from hc)
    conv => whnf
    refine call_step (refPlace_t bs ls b) rfl rfl ?_
    conv => whnf
    refine ⟨(by repeat' (first | exact trivial | exact rfl | refine And.intro ?_ ?_ | ((conv => whnf); first | exact trivial | exact rfl | refine And.intro ?_ ?_ | omega))), (by repeat' (first | exact trivial | exact rfl | refine And.intro ?_ ?_ | ((conv => whnf); first | exact trivial | exact rfl | refine And.intro ?_ ?_ | omega))), ?_⟩
    conv => whnf
    refine ⟨fun hc => ?_, fun hc => ?_⟩
    · have h2 : placeF bs.length b = false := by simpa using (show (!placeF bs.length b) = true from hc)
      rw [if_pos (.inr h2)] at hF
      rw [hF]
      conv => whnf
      repeat' (first | exact trivial | exact rfl | refine And.intro ?_ ?_ | ((conv => whnf); first | exact trivial | exact rfl | refine And.intro ?_ ?_ | omega))
    have h2 : placeF bs.length b = true := by simpa using (show (!placeF bs.length b) = false from hc)
    rw [if_neg (by rw [h1, h2]; simp)] at hF
    conv => whnf
    refine ⟨fun hc => ?_, fun hc => ?_⟩
    · have h3 : 2000 < ch.length := by have := of_decide_eq_true (show decide ((2000 : Int) < ch.length) = true from hc); omega
      rw [if_pos h3] at hF
      rw [hF]
      conv => whnf
      repeat' (first | exact trivial | exact rfl | refine And.intro ?_ ?_ | ((conv => whnf); first | exact trivial | exact rfl | refine And.intro ?_ ?_ | omega))
    have h3 : ¬ 2000 < ch.length := by have := of_decide_eq_false (show decide ((2000 : Int) < ch.length) = false from hc); omega
    rw [if_neg h3] at hF
    conv => whnf
    refine call_step (chained_t bs ls ch a b hs (by omega)) rfl rfl ?_
    conv => whnf
    refine ⟨(by repeat' (first | exact trivial | exact rfl | refine And.intro ?_ ?_ | ((conv => whnf); first | exact trivial | exact rfl | refine And.intro ?_ ?_ | omega))), (by repeat' (first | exact trivial | exact rfl | refine And.intro ?_ ?_ | ((conv => whnf); first | exact trivial | exact rfl | refine And.intro ?_ ?_ | omega))), ?_⟩
    conv => whnf
    refine ⟨fun hc => ?_, fun hc => ?_⟩
    · have h4 : (chainR (allF bs ls) ch a b).2 = false := by simpa using (show (!(chainR (allF bs ls) ch a b).2) = true from hc)
      rw [h4, if_neg (by simp)] at hF
      rw [hF]
      conv => whnf
      repeat' (first | exact trivial | exact rfl | refine And.intro ?_ ?_ | ((conv => whnf); first | exact trivial | exact rfl | refine And.intro ?_ ?_ | omega))
    · have h4 : (chainR (allF bs ls) ch a b).2 = true := by simpa using (show (!(chainR (allF bs ls) ch a b).2) = false from hc)
      rw [h4, if_pos rfl] at hF
      rw [hF]
      conv => whnf
      repeat' (first | exact trivial | exact rfl | refine And.intro ?_ ?_ | ((conv => whnf); first | exact trivial | exact rfl | refine And.intro ?_ ?_ | omega))
  · rw [if_pos (by simpa using hck)] at hF
    rw [hF]
    generalize checkF bs ls = c at *
    refine ⟨fun hcc => ?_, fun hcc => ?_⟩
    · conv => whnf
      repeat' (first | exact trivial | exact rfl | refine And.intro ?_ ?_ | ((conv => whnf); first | exact trivial | exact rfl | refine And.intro ?_ ?_ | omega))
    · exact absurd (by simpa using hcc) hck

end Go.Proofs

namespace Go
namespace Sx

/-! ### append to no slice -/

theorem Sat.lookEq {cx : Cx} {ρ : Asg} {e : Env} {H H' : Heap} {n : Nat} {a : Act} {w : World} (h : Sat cx ρ ⟨e, H, n⟩ a w) (hl : ∀ k, look H' k = look H k) : Sat cx ρ ⟨e, H', n⟩ a w where
  size := h.size
  defers := h.defers
  env := h.env
  heap := ⟨h.heap.frm, fun k own o hk => h.heap.reg k own o (by rw [← hl k]; exact hk), fun k k' o own' o' hne hk hk' => h.heap.apart k k' o own' o' hne (by rw [← hl k]; exact hk) (by rw [← hl k']; exact hk'),
    fun k o hk => h.heap.fresh k o (by rw [← hl k]; exact hk), fun k own o hk => h.heap.valid k own o (by rw [← hl k]; exact hk)⟩
  bnd := ⟨h.bnd.env, h.bnd.mks, fun k own o hk => h.bnd.heap k own o (by rw [← hl k]; exact hk)⟩
  base := h.base
  keep := h.keep
  n0 := h.n0

/-- A region without room may be added. -/
theorem Sat.addNil {cx : Cx} {ρ : Asg} {s : St} {a : Act} {w : World} (h : Sat cx ρ s a w) {k : Nat} (hf : Fresh k s) (hlt : k < s.nx) (hn : cx.n0 ≤ k) {A : Arr} (hA : A.xs = []) (hb : (SO.arr A).below s.nx) :
    Sat cx (upd ρ k ⟨0, 0, 0⟩) { s with H := (k, true, .arr A) :: s.H } a w where
  size := h.size
  defers := by rw [h.defers]; exact (marks_agree fun j hj => upd_ne (by rintro rfl; exact hf.mks hj)).symm
  env i := SV.rel_agree (fun j hj => upd_ne (by rintro rfl; have := hf.env i; rw [hj] at this; cases this)) (h.env i)
  heap := by
    refine h.heap.cons (fun j own o hl hj => ⟨upd_ne hj, fun n hnn => upd_ne (fun hkk => by have := (hf.heap j own o hl).2; rw [← hkk, hnn] at this; cases this)⟩) (Nat.le_refl _) h.heap.frm (fun _ _ _ => rfl)
      (fun j own' o' hl hj hp hr => ?_) (fun _ _ _ _ _ _ => rfl) ?_ ?_ ?_
    · simp only [SO.room, upd_eq, Nat.zero_mul] at hr; cases hr
    · refine ⟨by simp only [SO.wf, hA]; exact Nat.zero_le _, fun i j c hc => ?_, fun _ _ n hn => ?_, fun _ => by rw [upd_eq], fun Φ hΦ => by cases hΦ⟩
      · simp only [SO.cell?, hA] at hc; cases hc
      · simp only [SO.room, upd_eq, Nat.zero_mul] at hn; cases hn
    · intro _ hr; simp only [SO.room, upd_eq, Nat.zero_mul] at hr; cases hr
    · intro hr; simp only [SO.room, upd_eq, Nat.zero_mul] at hr; cases hr
  bnd := h.bnd.cons hlt hb
  base j hj := by rw [upd_ne (by omega)]; exact h.base j hj
  keep := h.keep
  n0 := h.n0

def appNilK (B : Tabs) (A : Arr) (zs : List A.α) (t t' : TypeId) (x y : SV) (H : Heap) (nx : Nat) (K : Eff → Prop) : Prop :=
  match lookT B.T t, lookT B.T t', x, y with
  | some ⟨.slice el, _, _, _⟩, some ⟨.slice _, _, _, _⟩, .c (.v (.slice none 0 0)), .c (.s k' st m sz) => (match lookT B.T el with
    | some ti => bif Nat.beq ti.size sz && (Nat.ble 1 sz && Nat.beq sz A.sz) then (match look H k' with
      | some (_, .arr X) => (X = A.setXs zs ∧ A.nm = [] ∧ st + m ≤ zs.length ∧ m * (ti.bytes + 1) ≤ 140737488355328) ∧
          K ⟨.c (.s (nx + 1) 0 m sz), [k'], [(nx + 1, true, .arr (A.setXs ((zs.drop st).take m))), (nx, false, .cells [])], [nx, nx + 1]⟩
      | _ => False) else False
    | none => False)
  | _, _, _, _ => False

theorem appNil_step {cx : Cx} {B : Tabs} (hB : TabsOK cx.P B) {o : Oper} {e : Env} {H : Heap} {nx : Nat} {K : Eff → Prop} {c : Call} {x y : Operand} {t t' : TypeId} (A : Arr) (zs : List A.α)
    (hone : ∀ x, allOne (A.enc x) = true) (ho : o.op = .call c) (hc : c.callee = .builtin .append) (hca : c.args = #[x, y]) (hct : c.argTypes = #[t, t'])
    (h : appNilK B A zs t t' (ev e x) (ev e y) H nx K) : ∃ F, CallOK cx o e H nx F ∧ K F := by
  have hx : x ∈ o.op.operands.toList := by simp [ho, Op.operands, Call.operands, hc, hca]
  have hy : y ∈ o.op.operands.toList := by simp [ho, Op.operands, Call.operands, hc, hca]
  unfold appNilK at h
  split at h
  · rename_i el s0 b0 z0 el' s1 b1 z1 k' st m sz ht ht' hex hey
    split at h
    · rename_i ti hti
      obtain ⟨hb, h⟩ := bif_and h
      simp only [Bool.and_eq_true] at hb
      obtain ⟨hb1, hb3, hb4⟩ := hb
      have hb1 := Nat.eq_of_beq_eq_true hb1
      have hb3 := Nat.le_of_ble_eq_true hb3
      have hb4 := Nat.eq_of_beq_eq_true hb4
      split at h
      · rename_i ow X hlk'
        obtain ⟨⟨rfl, hnm, h2, h3⟩, hK⟩ := h
        refine ⟨_, ⟨?_, ?_⟩, hK⟩
        rotate_left
        · intro j hj; simp at hj; rcases hj with rfl | rfl <;> simp
        intro ρ s a w hs hr hk hnew hdst KK Q hKK
        obtain ⟨hfr, hlt, hn0⟩ := hnew nx (by simp)
        obtain ⟨hfr1, hlt1, hn1⟩ := hnew (nx + 1) (by simp)
        have hl2 : look s.H k' = some (ow, .arr (A.setXs zs)) := by rw [hk k' (by simp)]; exact hlk'
        have hfit : ∀ z, z ∈ o.op.operands.toList → (ev e z).rel ρ (a.eval z) := fun z hz => reads_fit hz (fun t ht => by rw [← hr t ht]; exact hs.env t)
        have hx1 := hfit x hx
        have hy1 := hfit y hy
        rw [hex] at hx1; rw [hey] at hy1
        have hkn : k' ≠ nx := (hfr.heap k' ow _ hl2).1
        have hkn1 : k' ≠ nx + 1 := (hfr1.heap k' ow _ hl2).1
        have hx1 : a.eval x = .slice none 0 0 := hx1
        have hs2 := hs.addNil hfr hlt hn0 (A := A.setXs []) rfl (fun (j : Nat) (hj : anyMem [j] A.nm = true) => by rw [hnm] at hj; cases hj)
        have hfr2 : Fresh (nx + 1) { s with H := (nx, true, .arr (A.setXs [])) :: s.H } := ⟨hfr1.env, hfr1.mks, fun j own o hl => by
          rw [look_cons] at hl
          by_cases hj : j = nx
          · rw [if_pos hj] at hl
            simp at hl
            obtain ⟨_, rfl⟩ := hl
            refine ⟨by omega, ?_⟩
            show anyMem [nx + 1] A.nm = false
            rw [hnm]; rfl
          · rw [if_neg hj] at hl; exact hfr1.heap j own o hl⟩
        refine app_core (A0 := A.setXs []) (k := nx) (k' := k') (len := 0) (st := st) (m := m) (sz := sz) (sz' := sz) (ow := ow) (nx := nx + 1) hB zs hone ho hc hca hct ht ht' hti hb1 rfl hb3 hb4 hs2 ?_ ?_ (Nat.le_refl _) h2 (by rw [Nat.zero_add]; exact h3) ?_ ?_ hfr2 hlt1 hn1 hdst ?_
        · show look ((nx, true, SO.arr (A.setXs [])) :: s.H) nx = _
          rw [look_cons, if_pos rfl]
        · show look ((nx, true, SO.arr (A.setXs [])) :: s.H) k' = _
          rw [look_cons, if_neg hkn]; exact hl2
        · exact ⟨none, by rw [hx1, upd_eq]; rfl, by rw [upd_eq]; exact Nat.le_refl _, fun h => by rw [upd_eq] at h; cases h⟩
        · exact SC.rel_agree (fun j hj => upd_ne (by simp [SC.nms] at hj; subst hj; exact hkn)) hy1
        · intro ρ' a' w' hsat hag
          rw [Nat.zero_add] at hsat
          refine hKK ρ' a' w' (hsat.lookEq fun j => ?_) fun j hj => ?_
          · simp only [List.cons_append, List.nil_append, look_cons]
            by_cases h1 : j = nx + 1
            · rw [if_pos h1, if_pos h1]; rfl
            · rw [if_neg h1, if_neg h1]
              by_cases h0 : j = nx
              · rw [if_pos h0, if_pos h0]
              · rw [if_neg h0, if_neg h0, if_neg h0]
          · have h1 : j ≠ nx ∧ j ≠ nx + 1 := by simpa using hj
            rw [hag j (by simp; exact h1.2), upd_ne h1.1]
      · exact h.elim
    · exact h.elim
  · exact h.elim

end Sx
end Go

namespace Go
namespace Sx

/-! ### Making room where there is no slice yet: cap(nil), append(nil, make(..)...) -/

def capNilK (B : Tabs) (t : TypeId) (x : SV) (K : Eff → Prop) : Prop :=
  match x, lookT B.T t with
  | .c (.v (.slice none 0 0)), some ⟨.slice _, _, _, _⟩ => K ⟨iv .i64 0, [], [], []⟩
  | _, _ => False

theorem capNil_step {cx : Cx} {B : Tabs} (hB : TabsOK cx.P B) {o : Oper} {e : Env} {H : Heap} {nx : Nat} {K : Eff → Prop} {c : Call} {x : Operand} {t : TypeId} (ho : o.op = .call c) (hc : c.callee = .builtin .cap) (hca : c.args = #[x]) (hct : c.argTypes = #[t])
    (h : capNilK B t (ev e x) K) : ∃ F, CallOK cx o e H nx F ∧ K F := by
  have hx : x ∈ o.op.operands.toList := by simp [ho, Op.operands, Call.operands, hc, hca]
  unfold capNilK at h
  split at h
  · rename_i el s0 b0 z0 hex ht
    refine ⟨_, ⟨?_, fun j hj => by cases hj⟩, h⟩
    intro ρ s a w hs hr _ _ hdst KK Q hKK
    have hx1 := reads_fit hx (fun t ht => by rw [← hr t ht]; exact hs.env t)
    rw [hex] at hx1
    simp only [SV.rel, SC.rel] at hx1
    obtain ⟨ds, hds, hks⟩ := run_und_kd hB.T ht w
    have e1 := kd_slice hks; subst e1
    have hrun : (execOp a.eval o).run cx.P w = .ok (.value (.int .i64 0)) w := by
      rw [run_builtin ho hc]
      simp [builtin, hca, hct, Builtin.cap_, hx1, hds, goInt]
    refine wpIn_of_value (by simp [ho]) hrun (hKK ρ _ w ?_ (fun _ _ => rfl))
    exact hs.putO hdst rfl (below_iv _ _ _)
  · exact h.elim

def growK (B : Tabs) (A : Arr) (t tn : TypeId) (x y : SV) (nx : Nat) (K : Eff → Prop) : Prop :=
  match lookT B.T t, lookT B.T tn, x, y with
  | some ⟨.slice el, _, _, _⟩, some ⟨.int .i64, _, _, _⟩, .c (.v (.slice none 0 0)), .c (.v (.int .i64 n)) => (match lookT B.T el with
    | some ti => bif Nat.beq ti.size A.sz && Nat.ble 1 A.sz then
        ∃ N : Nat, (n = (N : Int) ∧ 0 < N ∧ N * (ti.bytes + 1) ≤ 140737488355328 ∧ A.xs = []) ∧
        K ⟨.c (.s nx 0 N A.sz), [], [(nx, true, .arr A)], [nx]⟩ else False
    | none => False)
  | _, _, _, _ => False

theorem grow_step {cx : Cx} {B : Tabs} (hB : TabsOK cx.P B) {o : Oper} {e : Env} {H : Heap} {nx : Nat} {K : Eff → Prop} {c : Call} {x y : Operand} {t tn : TypeId} (A : Arr) (hA : A.nm = []) (ho : o.op = .call c) (hc : c.callee = .builtin .append) (hca : c.args = #[x, y]) (hct : c.argTypes = #[t, tn])
    (h : growK B A t tn (ev e x) (ev e y) nx K) : ∃ F, CallOK cx o e H nx F ∧ K F := by
  have hx : x ∈ o.op.operands.toList := by simp [ho, Op.operands, Call.operands, hc, hca]
  have hy : y ∈ o.op.operands.toList := by simp [ho, Op.operands, Call.operands, hc, hca]
  unfold growK at h
  split at h
  · rename_i el s0 b0 z0 s1 b1 z1 n ht htn hex hey
    split at h
    · rename_i ti hti
      obtain ⟨hb, N, ⟨rfl, hN, h3, hxs⟩, hK⟩ := bif_and h
      simp only [Bool.and_eq_true] at hb
      have hb1 := Nat.eq_of_beq_eq_true hb.1
      have hb2 := Nat.le_of_ble_eq_true hb.2
      refine ⟨_, ⟨?_, fun j hj => by simp at hj; subst hj; simp⟩, hK⟩
      intro ρ s a w hs hr _ hnew hdst KK Q hKK
      obtain ⟨hfr, hlt, hn0⟩ := hnew nx (by simp)
      have hx1 := reads_fit hx (fun t ht => by rw [← hr t ht]; exact hs.env t)
      have hy1 := reads_fit hy (fun t ht => by rw [← hr t ht]; exact hs.env t)
      rw [hex] at hx1; rw [hey] at hy1
      simp only [SV.rel, SC.rel] at hx1 hy1
      obtain ⟨i, z, hi, hz, hisz, hiby, hzz⟩ := ti_parts hB hti
      have hbd : N * i.bytes ≤ 140737488355328 := by rw [hiby]; exact Nat.le_trans (Nat.mul_le_mul_left _ (Nat.le_succ _)) h3
      have hln : N * 1 ≤ 140737488355328 := Nat.le_trans (Nat.mul_le_mul_left _ (by omega)) h3
      have htn' : cx.P.underlying tn = some (.int .i64) := by
        obtain ⟨i, d, z, hi, hd, hz, hk, _⟩ := tiOf_parts (hB.T.get htn)
        cases d <;> simp [kdOf] at hk
        rw [hd, hk]
      have hrunA := Lib.run_append_nil_zeros (P := cx.P) w t tn o.type el i z .i64 .i64 (und_slice hB ht) htn' hi hz N hN (by omega) (by omega) (by omega)
      have hge := grownCap_ge w N 0 el
      generalize hgc : grownCap w N 0 el = gc at hrunA hge
      have hzsz : z.cells.size = A.sz := by
        have := congrArg List.length hzz
        rw [← hb1]
        have hz2 := hB.zsz el ti hti
        simpa [hz2] using this
      have hrun : (execOp a.eval o).run cx.P w = .ok (.value (.slice (some ⟨w.heap.size, 0, none⟩) N gc)) (w.drew.alloc (.cells (Builtin.zeroCells z.cells N ++ Builtin.zeroCells z.cells (gc - N)) el)) := by
        rw [run_builtin ho hc, hca, hct]
        simp only [List.map_toArray, List.map_cons, List.map_nil, builtin, hx1, hy1, Sem.run_bind, hrunA, Result.andThen_ok, Sem.run_pure]
      refine wpIn_of_value (by simp [ho]) hrun (hKK (upd ρ nx ⟨w.heap.size, 0, gc⟩) _ _ ?_ (fun j hj => upd_ne (by simpa using hj)))
      have hbelow : (SO.arr A).below s.nx := fun (j : Nat) (hj : anyMem [j] A.nm = true) => by rw [hA] at hj; cases hj
      have hsat := hs.newAt (k := nx) (cap := gc) (o := .arr A) (ob := .cells (Builtin.zeroCells z.cells N ++ Builtin.zeroCells z.cells (gc - N)) el (0, 0)) hfr hlt hn0 hbelow ?_
      · refine (hsat.eqHeap (w' := w.drew.alloc _) rfl).putO hdst ?_ (by rw [SV.below_c]; intro j hj; simp [SC.nms] at hj; subst hj; exact hlt)
        simp only [SV.rel, SC.rel, upd_eq, Nat.sub_zero, Nat.zero_mul, Nat.zero_add]
        exact ⟨_, rfl, hge, fun _ => by simp [adr, upd_eq]⟩
      · refine satO_new_arr (by rw [hxs]; exact Nat.zero_le _) ?_ ?_
        · simp only [Array.size_append, size_zeroCells, hzsz]
          rw [← Nat.add_mul]; congr 1; omega
        · intro i' xx hxx
          rw [hxs] at hxx; cases hxx
    · exact h.elim
  · exact h.elim

end Sx
end Go

namespace Go
namespace Sx

/-! ### A list of slices, written out -/

def inVs (k : Nat) (e : Env) : List (Nat × Operand) → Bool
  | [] => false
  | p :: r => bif (ev e p.2).uses [k] then true else inVs k e r

def allVs (e : Env) (ps : List (Nat × Operand)) : List Nat → Bool
  | [] => true
  | k :: r => bif inVs k e ps then allVs e ps r else false

theorem inVs_get {k : Nat} {e : Env} : ∀ {ps : List (Nat × Operand)}, inVs k e ps = true → ∃ p ∈ ps, (ev e p.2).uses [k] = true
  | [], h => by cases h
  | p :: r, h => by
    simp only [inVs] at h
    cases hu : (ev e p.2).uses [k] with
    | true => exact ⟨p, List.mem_cons_self .., hu⟩
    | false =>
      rw [hu] at h
      obtain ⟨q, hq, h2⟩ := inVs_get h
      exact ⟨q, List.mem_cons_of_mem _ hq, h2⟩

theorem allVs_get {e : Env} {ps : List (Nat × Operand)} : ∀ {l : List Nat} {k : Nat}, allVs e ps l = true → k ∈ l → ∃ p ∈ ps, (ev e p.2).uses [k] = true
  | [], _, _, h => by cases h
  | j :: r, k, h, hk => by
    simp only [allVs] at h
    cases hu : inVs j e ps with
    | false => rw [hu] at h; cases h
    | true =>
      rw [hu] at h
      rcases List.mem_cons.1 hk with rfl | hk
      · exact inVs_get hu
      · exact allVs_get h hk

def bsNK (B : Tabs) (A : Arr) (e : Env) (t : TypeId) (len : Nat) (ps : List (Nat × Operand)) (nx : Nat) (K : Eff → Prop) : Prop :=
  bif allVs e ps A.nm then bsK B A e t len ps nx K else False

theorem bsN_step {cx : Cx} {B : Tabs} (hB : TabsOK cx.P B) {o : Oper} {e : Env} {H : Heap} {nx : Nat} {K : Eff → Prop} {t : TypeId} {len : Nat} {parts : Array (Nat × Operand)} (A : Arr)
    (ho : o.op = .buildSlice t len parts) (h : bsNK B A e t len parts.toList nx K) : ∃ F, CallOK cx o e H nx F ∧ K F := by
  have hmem : ∀ p ∈ parts.toList, p.2 ∈ o.op.operands.toList := fun p hp => by
    simp [ho, Op.operands]; exact ⟨p.1, by simpa using hp⟩
  obtain ⟨hall, h⟩ := bif_and h
  unfold bsK at h
  split at h
  · rename_i el s0 b0 z0 ht
    split at h
    · rename_i ti hti
      split at h
      · rename_i l hl
        obtain ⟨hb, ⟨hlen, hent⟩, hK⟩ := bif_and h
        simp only [Bool.and_eq_true] at hb
        have hb1 := Nat.eq_of_beq_eq_true hb.1
        have hb2 := Nat.le_of_ble_eq_true hb.2.1
        have hb3 := Nat.le_of_ble_eq_true hb.2.2
        refine ⟨_, ⟨loc_new (by simp [ho]) below_s ?_ ?_, fun j hj => by simp at hj; subst hj; simp⟩, hK⟩
        · intro n' hn' j hj
          obtain ⟨k, hk, hjk⟩ := anyMem_iff.1 (show anyMem [j] A.nm = true from hj)
          simp only [List.mem_singleton] at hjk
          subst hjk
          obtain ⟨p, hp, hu⟩ := allVs_get hall hk
          exact (reads_below (hmem p hp) hn') k hu
        · intro ρ a w hr hfr
          obtain ⟨i, z, hi, hz, hisz, hiby, hzz⟩ := ti_parts hB hti
          have hr' : ∀ p ∈ parts.toList, (ev e p.2).rel (upd ρ nx ⟨w.heap.size, 0, len⟩) (a.eval p.2) := by
            intro p hp
            refine SV.rel_upd' (reads_fit (hmem p hp) hr) ?_
            have hm := hmem p hp
            cases hx : p.2 with
            | tmp t => rw [hx] at hm; exact hfr t hm
            | const v => exact evC_uses v _
            | global g => simp [ev, SV.uses, SC.uses, SC.nms, anyMem]
            | func g => simp [ev, SV.uses, SC.uses, SC.nms, anyMem]
          have hinit : ((Array.range (len * i.size)).map (z.cells[· % z.cells.size]!)).size = len * ti.size := by simp [hisz]
          obtain ⟨out, hout, hrel⟩ := fillR_ok (ρ := upd ρ nx ⟨w.heap.size, 0, len⟩) (a := a) (e := e) (sz := ti.size) parts.toList (junks (len * ti.size)) ((Array.range (len * i.size)).map (z.cells[· % z.cells.size]!)) l
            (by have := @junks_rel (upd ρ nx ⟨w.heap.size, 0, len⟩) ((Array.range (len * i.size)).map (z.cells[· % z.cells.size]!)).toList; rwa [Array.length_toList, hinit] at this) hr' hl
          have hlo := relL_length hrel
          have hrelA := entL_rel0 hent hrel
          have hlA := relL_length hrelA
          have hencl : ∀ xs : List A.α, (encAll A xs).length = xs.length * A.sz := by
            intro xs; induction xs with
            | nil => simp [encAll]
            | cons x r ih => simp only [encAll, List.length_append, ih, A.hl, List.length_cons, Nat.add_mul]; omega
          refine ⟨.slice (some ⟨w.heap.size, 0, none⟩) len len, .cells out el (0, 0), len, ?_, ?_, satO_new_arr (by omega) ?_ ?_⟩
          · have hsz : (sizeOf el).run cx.P w = .ok i.size w := by simp [sizeOf, typeInfo, hi]
            have hle : ¬ (len * i.size > 2 ^ 24) := by rw [hisz]; omega
            have h2 : (Array.map (fun x => (x.fst, a.eval x.snd)) parts).toList = parts.toList.map fun p => (p.1, a.eval p.2) := by simp
            simp only [execOp, ho, Instr.buildSlice, Sem.run_bind, run_underlying (und_slice hB ht), Result.andThen_ok, hsz, if_neg hle, h2]
            by_cases h0 : len * i.size = 0
            · have hl0 : len = 0 := by
                rcases Nat.mul_eq_zero.1 h0 with h | h
                · exact h
                · omega
              subst hl0
              simp only [Nat.zero_mul, if_true, Sem.run_pure, Result.andThen_ok]
              simp only [Nat.zero_mul] at hout
              rw [← hisz] at hout
              have e0 : (Array.map (fun x => (#[] : Array Value)[x % (#[] : Array Value).size]!) (Array.range 0)) = (Array.map (fun x => z.cells[x % z.cells.size]!) (Array.range 0)) := by simp
              simp only [e0, hout, Sem.run_bind, newRow, newObj, Sem.run, Result.andThen_ok, Sem.run_pure]
              rfl
            · have hzr : (zeroValue el).run cx.P w = .ok z w := by simp [zeroValue, typeInfo, hi, hz]
              rw [← hisz] at hout
              simp only [if_neg h0, Sem.run_bind, hzr, Result.andThen_ok, Sem.run_pure, hout, newRow, newObj, Sem.run]
              rfl
          · simp only [SV.rel, SC.rel, upd_eq, Nat.sub_zero, Nat.zero_mul, Nat.zero_add]
            exact ⟨_, rfl, Nat.le_refl _, fun _ => by simp [adr, upd_eq]⟩
          · rw [hencl] at hlA; rw [← hlen]; simpa using hlA.symm
          · intro i' xx hxx j d hd
            obtain ⟨v, hv, hvr⟩ := relL_get hrelA (encAll_get hxx hd)
            exact ⟨v, by simpa using hv, hvr⟩
      · exact h.elim
    · exact h.elim
  · exact h.elim

end Sx
end Go

