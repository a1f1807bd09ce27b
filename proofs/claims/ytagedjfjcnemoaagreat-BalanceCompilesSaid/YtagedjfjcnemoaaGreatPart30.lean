/-
  A part of the proof that a law answers true: lemmas of a symbolic walk, plain functions, or contracts of the functions walked (RC). Conditions: none.
-/
import Derived.Test.YtagedjfjcnemoaaGreatPart29
set_option maxRecDepth 100000
set_option linter.unusedVariables false
set_option linter.unusedSimpArgs false
namespace Go.Proofs
open Go.Sx

theorem sameSys_t (bs : List (Int × Int)) (ls : List Lnk) (hb : bs.length ≤ 1000000) (hl : ls.length ≤ 1000000) : Triple Tryz.prog 52 [.agg [.s 0 0 bs.length 2, .s 1 0 ls.length 4], .agg [.s 2 0 bs.length 2, .s 3 0 ls.length 4]]
    [(0, false, .arr (aSpan bs)), (1, false, .arr (aLink ls)), (2, false, .arr (aSpan bs)), (3, false, .arr (aLink ls))] 4 (bv true) [] := by
  refine triple_of tB_ok Tryz.func52 rfl Tryz.call52 rfl ?_
  intro ρ w hH
  conv=>whnf
  refine ⟨fun h => absurd (show ((bs.length : Int) != bs.length) = true from h) (by simp), fun h => ?_⟩
  conv=>whnf
  refine ⟨fun h => absurd (show ((ls.length : Int) != ls.length) = true from h) (by simp), fun h => ?_⟩
  conv=>whnf
  refine loop_step tB_ok (G := Nat) 0 [] (fun i => [(26, iv .i64 i)]) (fun _ => []) (fun i => i ≤ bs.length) (fun i => bs.length - i) ?_
  conv=>whnf
  refine ⟨⟨0, Nat.zero_le _, ?_⟩, ?_⟩
  · conv=>whnf
    repeat' (first | exact trivial | exact rfl | refine And.intro ?_ ?_ | ((conv=>whnf); first | exact trivial | exact rfl | refine And.intro ?_ ?_ | omega))
  rintro i hi ρ1 t1 hρ1
  conv=>whnf
  refine ⟨fun h1 => ?_, fun h1 => ?_⟩
  · have h1 : i < bs.length := by simpa using h1
    conv=>whnf
    refine ⟨i, rfl, h1, h1, ?_⟩
    conv=>whnf
    refine ⟨i, rfl, h1, h1, ?_⟩
    conv=>whnf
    refine ⟨fun h3 => absurd (show ([bs[i].1, bs[i].2] != [bs[i].1, bs[i].2]) = true from h3) (by simp), fun h3 => ?_⟩
    conv=>whnf
    refine ⟨_, wrapId ⟨by omega, by omega⟩, ?_⟩
    refine ⟨i + 1, h1, by show bs.length - (i + 1) < bs.length - i; omega, ?_⟩
    conv=>whnf
    refine ⟨rfl, ?_⟩
    conv=>whnf
    repeat' (first | exact trivial | exact rfl | refine And.intro ?_ ?_ | ((conv=>whnf); first | exact trivial | exact rfl | refine And.intro ?_ ?_ | omega))
  conv=>whnf
  refine loop_step tB_ok (G := Nat) 0 [] (fun i => [(44, iv .i64 i)]) (fun _ => []) (fun i => i ≤ ls.length) (fun i => ls.length - i) ?_
  conv=>whnf
  refine ⟨⟨0, Nat.zero_le _, ?_⟩, ?_⟩
  · conv=>whnf
    repeat' (first | exact trivial | exact rfl | refine And.intro ?_ ?_ | ((conv=>whnf); first | exact trivial | exact rfl | refine And.intro ?_ ?_ | omega))
  rintro i hi ρ2 t2 hρ2
  conv=>whnf
  refine ⟨fun h1 => ?_, fun h1 => ?_⟩
  · have h1 : i < ls.length := by simpa using h1
    conv=>whnf
    refine ⟨i, rfl, h1, h1, ?_⟩
    conv=>whnf
    refine ⟨i, rfl, h1, h1, ?_⟩
    conv=>whnf
    refine ⟨fun h3 => absurd (show ([ls[i].f, ls[i].t, ls[i].m, ls[i].i] != [ls[i].f, ls[i].t, ls[i].m, ls[i].i]) = true from h3) (by simp), fun h3 => ?_⟩
    conv=>whnf
    refine ⟨_, wrapId ⟨by omega, by omega⟩, ?_⟩
    refine ⟨i + 1, h1, by show ls.length - (i + 1) < ls.length - i; omega, ?_⟩
    conv=>whnf
    refine ⟨rfl, ?_⟩
    conv=>whnf
    repeat' (first | exact trivial | exact rfl | refine And.intro ?_ ?_ | ((conv=>whnf); first | exact trivial | exact rfl | refine And.intro ?_ ?_ | omega))
  conv=>whnf
  repeat' (first | exact trivial | exact rfl | refine And.intro ?_ ?_ | ((conv=>whnf); first | exact trivial | exact rfl | refine And.intro ?_ ?_ | omega))

theorem plF_step {α : Type} [DecidableEq α] {l : List α} (hd : l.Nodup) {x : α} {i : Nat} (h : i < l.length) : plF (l.take (i + 1)) x = if l[i] = x then (i : Int) else plF (l.take i) x := by
  have hi : i < (l.take (i + 1)).length := by rw [List.length_take]; omega
  have hsn := take_snoc h
  by_cases he : l[i] = x
  · rw [if_pos he]
    refine plF_at (hd.sublist (List.take_sublist _ _)) ?_
    rw [List.getElem?_take, if_pos (by omega), List.getElem?_eq_getElem h, he]
  · rw [if_neg he]
    unfold plF
    by_cases hm : x ∈ l.take i
    · rw [if_pos (by rw [hsn]; exact List.mem_append.2 (.inl hm)), if_pos hm, hsn, List.idxOf_append, if_pos hm]
    · rw [if_neg (by rw [hsn]; intro hx; rcases List.mem_append.1 hx with hx | hx; exact hm hx; simp only [List.mem_singleton] at hx; exact he hx.symm), if_neg hm]

def locF (n : Nat) (ms : List Mom) (m : Mom) : Int := if plF ms m < 0 then -1 else n + plF ms m

theorem locF_step {l : List Mom} (hd : l.Nodup) {n : Nat} {x : Mom} {i : Nat} (h : i < l.length) : locF n (l.take (i + 1)) x = if l[i] = x then (n : Int) + i else locF n (l.take i) x := by
  unfold locF
  rw [plF_step hd h]
  by_cases he : l[i] = x
  · rw [if_pos he, if_pos he, if_neg (by omega)]
  · rw [if_neg he, if_neg he]

set_option maxHeartbeats 4000000 in
theorem balanceCompiles_t (r : Rd) (hw : Wide r) (o : Thg) (m : Mom) : Triple Tryz.prog 8 [rdA r, svThg o, svMom m] (rdH r) 4 (bv true) [] := by
  have hFew := few_rd_t r hw
  by_cases hfew : fewRd r = true
  rotate_left
  · rw [Bool.not_eq_true] at hfew
    rw [hfew] at hFew
    refine triple_of tB_ok Tryz.func8 rfl Tryz.call8 rfl ?_
    intro ρ w hH
    conv=>whnf
    refine call_step hFew rfl rfl ?_
    conv=>whnf
    refine ⟨?_, ?_, ?_⟩
    iterate 2 · repeat' (first | exact trivial | exact rfl | refine And.intro ?_ ?_ | ((conv=>whnf); first | exact trivial | exact rfl | refine And.intro ?_ ?_ | omega))
    conv=>whnf
    refine ⟨fun hc => ?_, fun hc => absurd hc (by simp)⟩
    conv=>whnf
    refine call_step sanity_t rfl rfl ?_
    conv=>whnf
    refine ⟨?_, ?_, ?_⟩
    iterate 2 · repeat' (first | exact trivial | exact rfl | refine And.intro ?_ ?_ | ((conv=>whnf); first | exact trivial | exact rfl | refine And.intro ?_ ?_ | omega))
    conv=>whnf
    repeat' (first | exact trivial | exact rfl | refine And.intro ?_ ?_ | ((conv=>whnf); first | exact trivial | exact rfl | refine And.intro ?_ ?_ | omega))
  rw [hfew] at hFew
  have hf := (fewRd_bd hfew).2
  have hs := few_sml hfew
  have hC := rCheck_t r hs
  have p1 := bObjects_t r hs
  have p2 := bMoments_t r hs
  have p3 := bCompile_t r hs
  have p4 := bShift_t r m hs
  have p5 := bPlace_t r o hs
  have p6 := bPlaceOf_t r m hs
  have p7 := rShift_t r m hs
  have e1 : pObjs r = if checkR r = 0 then (objsF r, 0) else ([], checkR r) := rfl
  have e2 : pMoms r = if checkR r = 0 then (momsF r [], 0) else ([], checkR r) := rfl
  have e3 : pSys r = if checkR r = 0 then ((boxR r [], lnkR r []), 0) else (([], []), checkR r) := rfl
  have e5 : pPlace r o = if checkR r = 0 then (if o ∈ objsF r then (plF (objsF r) o, 0) else (0, 5)) else (0, checkR r) := rfl
  have e6 : pPlaceOf r m = if checkR r = 0 then (if m ∈ momsF r [] then ((objsF r).length + plF (momsF r []) m, 0) else (0, 5)) else (0, checkR r) := rfl
  generalize pShift r m = S at *
  by_cases h0 : checkR r = 0
  rotate_left
  · rw [if_neg h0] at e1 e2 e3 e5 e6
    rw [e1] at p1
    rw [e2] at p2
    rw [e3] at p3
    rw [e5] at p5
    rw [e6] at p6
    clear e1 e2 e3 e5 e6
    generalize checkR r = c at *
    refine triple_of tB_ok Tryz.func8 rfl Tryz.call8 rfl ?_
    intro ρ w hH
    conv=>whnf
    refine call_step hFew rfl rfl ?_
    conv=>whnf
    refine ⟨?_, ?_, ?_⟩
    iterate 2 · repeat' (first | exact trivial | exact rfl | refine And.intro ?_ ?_ | ((conv=>whnf); first | exact trivial | exact rfl | refine And.intro ?_ ?_ | omega))
    conv=>whnf
    refine ⟨fun hc => absurd hc (by simp), fun hc => ?_⟩
    conv=>whnf
    refine call_step p1 rfl rfl ?_
    conv=>whnf
    refine ⟨?_, ?_, ?_⟩
    iterate 2 · repeat' (first | exact trivial | exact rfl | refine And.intro ?_ ?_ | ((conv=>whnf); first | exact trivial | exact rfl | refine And.intro ?_ ?_ | omega))
    conv=>whnf
    refine call_step p2 rfl rfl ?_
    conv=>whnf
    refine ⟨?_, ?_, ?_⟩
    iterate 2 · repeat' (first | exact trivial | exact rfl | refine And.intro ?_ ?_ | ((conv=>whnf); first | exact trivial | exact rfl | refine And.intro ?_ ?_ | omega))
    conv=>whnf
    refine call_step p3 rfl rfl ?_
    conv=>whnf
    refine ⟨?_, ?_, ?_⟩
    iterate 2 · repeat' (first | exact trivial | exact rfl | refine And.intro ?_ ?_ | ((conv=>whnf); first | exact trivial | exact rfl | refine And.intro ?_ ?_ | omega))
    conv=>whnf
    refine call_step p4 rfl rfl ?_
    conv=>whnf
    refine ⟨?_, ?_, ?_⟩
    iterate 2 · repeat' (first | exact trivial | exact rfl | refine And.intro ?_ ?_ | ((conv=>whnf); first | exact trivial | exact rfl | refine And.intro ?_ ?_ | omega))
    conv=>whnf
    refine call_step p5 rfl rfl ?_
    conv=>whnf
    refine ⟨?_, ?_, ?_⟩
    iterate 2 · repeat' (first | exact trivial | exact rfl | refine And.intro ?_ ?_ | ((conv=>whnf); first | exact trivial | exact rfl | refine And.intro ?_ ?_ | omega))
    conv=>whnf
    refine call_step p6 rfl rfl ?_
    conv=>whnf
    refine ⟨?_, ?_, ?_⟩
    iterate 2 · repeat' (first | exact trivial | exact rfl | refine And.intro ?_ ?_ | ((conv=>whnf); first | exact trivial | exact rfl | refine And.intro ?_ ?_ | omega))
    conv=>whnf
    refine call_step p7 rfl rfl ?_
    conv=>whnf
    refine ⟨?_, ?_, ?_⟩
    iterate 2 · repeat' (first | exact trivial | exact rfl | refine And.intro ?_ ?_ | ((conv=>whnf); first | exact trivial | exact rfl | refine And.intro ?_ ?_ | omega))
    conv=>whnf
    refine ⟨fun hc => absurd (show ([S.1.1, S.1.2] != [S.1.1, S.1.2]) = true from hc) (by simp), fun hc => ?_⟩
    conv=>whnf
    refine ⟨fun hc => absurd (show (S.2 != S.2) = true from hc) (by simp), fun hc => ?_⟩
    conv=>whnf
    refine call_step hC rfl rfl ?_
    conv=>whnf
    refine ⟨?_, ?_, ?_⟩
    iterate 2 · repeat' (first | exact trivial | exact rfl | refine And.intro ?_ ?_ | ((conv=>whnf); first | exact trivial | exact rfl | refine And.intro ?_ ?_ | omega))
    conv=>whnf
    refine ⟨fun hcc => ?_, fun hcc => absurd (by simpa using (show (c != 0) = false from hcc)) h0⟩
    conv=>whnf
    refine call_step sanity_t rfl rfl ?_
    conv=>whnf
    refine ⟨?_, ?_, ?_⟩
    iterate 2 · repeat' (first | exact trivial | exact rfl | refine And.intro ?_ ?_ | ((conv=>whnf); first | exact trivial | exact rfl | refine And.intro ?_ ?_ | omega))
    conv=>whnf
    refine ⟨fun hc => ?_, fun hc => absurd hc (by simp)⟩
    conv=>whnf
    refine ⟨fun hc => ?_, fun hc => absurd (show (c == c) = false from hc) (by simp)⟩
    conv=>whnf
    refine ⟨fun hc => ?_, fun hc => absurd (show (c == c) = false from hc) (by simp)⟩
    conv=>whnf
    refine ⟨fun hc => ?_, fun hc => absurd (show (c == c) = false from hc) (by simp)⟩
    conv=>whnf
    refine ⟨fun hc => ?_, fun hc => absurd (show (c == c) = false from hc) (by simp)⟩
    conv=>whnf
    refine ⟨fun hc => ?_, fun hc => absurd (show (c == c) = false from hc) (by simp)⟩
    conv=>whnf
    refine ⟨fun hc => ?_, fun hc => absurd hc (by simp)⟩
    conv=>whnf
    refine ⟨fun hc => ?_, fun hc => absurd hc (by simp)⟩
    conv=>whnf
    refine ⟨fun hc => ?_, fun hc => absurd hc (by simp)⟩
    conv=>whnf
    refine ⟨fun hc => ?_, fun hc => absurd hc (by simp)⟩
    conv=>whnf
    refine ⟨fun hc => ?_, fun hc => absurd hc (by simp)⟩
    conv=>whnf
    repeat' (first | exact trivial | exact rfl | refine And.intro ?_ ?_ | ((conv=>whnf); first | exact trivial | exact rfl | refine And.intro ?_ ?_ | omega))
  rw [if_pos h0] at e1 e2 e3 e5 e6
  have h := checkR_ok.1 h0
  have q1 := rObjects_t r hs
  have q2 := rMoments_t r hs
  have q3 := rCompile_t r h
  have hrl := rdR_len h (more := []) (by simp)
  have hol := objsF_len r
  have hml := momsF_len r []
  have hws := hs.ws
  have hcs := hs.cs
  have s1 := bSameThg_t (objsF r) (by omega)
  have s2 := bSameMom_t (momsF r []) (by simp at hml; omega)
  have s3 := sameSys_t (boxR r []) (lnkR r []) (by omega) (by omega)
  have hod := objsF_nodup r
  have hmd := momsF_nodup r []
  have f1 : (pPlace r o = if plF (objsF r) o < 0 then (0, 5) else (plF (objsF r) o, 0)) := by
    rw [e5]
    by_cases ho : o ∈ objsF r
    · obtain ⟨pe, pl⟩ := plF_mem ho
      rw [if_pos ho, if_neg (by omega)]
    · rw [if_neg ho, if_pos (by unfold plF; rw [if_neg ho]; decide)]
  have f2 : (pPlaceOf r m = if locF (objsF r).length (momsF r []) m < 0 then (0, 5) else (locF (objsF r).length (momsF r []) m, 0)) := by
    rw [e6]
    unfold locF
    by_cases ho : m ∈ momsF r []
    · obtain ⟨pe, pl⟩ := plF_mem ho
      rw [if_pos ho, if_neg (show ¬ plF (momsF r []) m < 0 by omega), if_neg (by omega)]
    · have : plF (momsF r []) m = -1 := by unfold plF; rw [if_neg ho]
      rw [if_neg ho, this]; simp
  rw [h0] at hC
  rw [e1] at p1
  rw [e2] at p2
  rw [e3] at p3
  rw [f1] at p5
  rw [f2] at p6
  have hob : (objsF r).length ≤ 1000000 := by omega
  have hmb : (momsF r []).length ≤ 1000000 := by simp at hml; omega
  clear e1 e2 e3 e5 e6 f1 f2 hrl hol hml
  generalize boxR r [] = bx at *
  generalize lnkR r [] = lk at *
  generalize objsF r = os at *
  generalize momsF r [] = ms at *
  have hP : ∀ P : Int × Int, P = (if plF os o < 0 then (0, 5) else (plF os o, 0)) → (plF os o < 0 ∧ P.1 = 0 ∧ P.2 = 5) ∨ (¬ plF os o < 0 ∧ P.1 = plF os o ∧ P.2 = 0) := fun P hP => by
    by_cases hh : plF os o < 0
    · rw [if_pos hh] at hP; subst hP; exact .inl ⟨hh, rfl, rfl⟩
    · rw [if_neg hh] at hP; subst hP; exact .inr ⟨hh, rfl, rfl⟩
  have hQ : ∀ P : Int × Int, P = (if locF os.length ms m < 0 then (0, 5) else (locF os.length ms m, 0)) → (locF os.length ms m < 0 ∧ P.1 = 0 ∧ P.2 = 5) ∨ (¬ locF os.length ms m < 0 ∧ P.1 = locF os.length ms m ∧ P.2 = 0) := fun P hP => by
    by_cases hh : locF os.length ms m < 0
    · rw [if_pos hh] at hP; subst hP; exact .inl ⟨hh, rfl, rfl⟩
    · rw [if_neg hh] at hP; subst hP; exact .inr ⟨hh, rfl, rfl⟩
  have hP := hP _ rfl
  have hQ := hQ _ rfl
  generalize (if plF os o < 0 then ((0 : Int), (5 : Int)) else (plF os o, 0)) = P at *
  generalize (if locF os.length ms m < 0 then ((0 : Int), (5 : Int)) else (locF os.length ms m, 0)) = Q at *
  refine triple_of tB_ok Tryz.func8 rfl Tryz.call8 rfl ?_
  intro ρ w hH
  conv=>whnf
  refine call_step hFew rfl rfl ?_
  conv=>whnf
  refine ⟨?_, ?_, ?_⟩
  iterate 2 · repeat' (first | exact trivial | exact rfl | refine And.intro ?_ ?_ | ((conv=>whnf); first | exact trivial | exact rfl | refine And.intro ?_ ?_ | omega))
  conv=>whnf
  refine ⟨fun hc => absurd hc (by simp), fun hc => ?_⟩
  conv=>whnf
  refine call_step p1 rfl rfl ?_
  conv=>whnf
  refine ⟨?_, ?_, ?_⟩
  iterate 2 · repeat' (first | exact trivial | exact rfl | refine And.intro ?_ ?_ | ((conv=>whnf); first | exact trivial | exact rfl | refine And.intro ?_ ?_ | omega))
  conv=>whnf
  refine call_step p2 rfl rfl ?_
  conv=>whnf
  refine ⟨?_, ?_, ?_⟩
  iterate 2 · repeat' (first | exact trivial | exact rfl | refine And.intro ?_ ?_ | ((conv=>whnf); first | exact trivial | exact rfl | refine And.intro ?_ ?_ | omega))
  conv=>whnf
  refine call_step p3 rfl rfl ?_
  conv=>whnf
  refine ⟨?_, ?_, ?_⟩
  iterate 2 · repeat' (first | exact trivial | exact rfl | refine And.intro ?_ ?_ | ((conv=>whnf); first | exact trivial | exact rfl | refine And.intro ?_ ?_ | omega))
  conv=>whnf
  refine call_step p4 rfl rfl ?_
  conv=>whnf
  refine ⟨?_, ?_, ?_⟩
  iterate 2 · repeat' (first | exact trivial | exact rfl | refine And.intro ?_ ?_ | ((conv=>whnf); first | exact trivial | exact rfl | refine And.intro ?_ ?_ | omega))
  conv=>whnf
  refine call_step p5 rfl rfl ?_
  conv=>whnf
  refine ⟨?_, ?_, ?_⟩
  iterate 2 · repeat' (first | exact trivial | exact rfl | refine And.intro ?_ ?_ | ((conv=>whnf); first | exact trivial | exact rfl | refine And.intro ?_ ?_ | omega))
  conv=>whnf
  refine call_step p6 rfl rfl ?_
  conv=>whnf
  refine ⟨?_, ?_, ?_⟩
  iterate 2 · repeat' (first | exact trivial | exact rfl | refine And.intro ?_ ?_ | ((conv=>whnf); first | exact trivial | exact rfl | refine And.intro ?_ ?_ | omega))
  conv=>whnf
  refine call_step p7 rfl rfl ?_
  conv=>whnf
  refine ⟨?_, ?_, ?_⟩
  iterate 2 · repeat' (first | exact trivial | exact rfl | refine And.intro ?_ ?_ | ((conv=>whnf); first | exact trivial | exact rfl | refine And.intro ?_ ?_ | omega))
  conv=>whnf
  refine ⟨fun hc => absurd (show ([S.1.1, S.1.2] != [S.1.1, S.1.2]) = true from hc) (by simp), fun hc => ?_⟩
  conv=>whnf
  refine ⟨fun hc => absurd (show (S.2 != S.2) = true from hc) (by simp), fun hc => ?_⟩
  conv=>whnf
  refine call_step hC rfl rfl ?_
  conv=>whnf
  refine ⟨?_, ?_, ?_⟩
  iterate 2 · repeat' (first | exact trivial | exact rfl | refine And.intro ?_ ?_ | ((conv=>whnf); first | exact trivial | exact rfl | refine And.intro ?_ ?_ | omega))
  conv=>whnf
  refine ⟨fun hc => absurd hc (by simp), fun hc => ?_⟩
  conv=>whnf
  refine ⟨fun hc => absurd hc (by simp), fun hc => ?_⟩
  conv=>whnf
  refine ⟨fun hc => absurd hc (by simp), fun hc => ?_⟩
  conv=>whnf
  refine ⟨fun hc => absurd hc (by simp), fun hc => ?_⟩
  conv=>whnf
  refine call_step q1 rfl rfl ?_
  conv=>whnf
  refine ⟨?_, ?_, ?_⟩
  iterate 2 · repeat' (first | exact trivial | exact rfl | refine And.intro ?_ ?_ | ((conv=>whnf); first | exact trivial | exact rfl | refine And.intro ?_ ?_ | omega))
  conv=>whnf
  refine call_step s1 rfl rfl ?_
  conv=>whnf
  refine ⟨?_, ?_, ?_⟩
  iterate 2 · repeat' (first | exact trivial | exact rfl | refine And.intro ?_ ?_ | ((conv=>whnf); first | exact trivial | exact rfl | refine And.intro ?_ ?_ | omega))
  conv=>whnf
  refine ⟨fun hc => absurd hc (by simp), fun hc => ?_⟩
  conv=>whnf
  refine call_step q2 rfl rfl ?_
  conv=>whnf
  refine ⟨?_, ?_, ?_⟩
  iterate 2 · repeat' (first | exact trivial | exact rfl | refine And.intro ?_ ?_ | ((conv=>whnf); first | exact trivial | exact rfl | refine And.intro ?_ ?_ | omega))
  conv=>whnf
  refine call_step s2 rfl rfl ?_
  conv=>whnf
  refine ⟨?_, ?_, ?_⟩
  iterate 2 · repeat' (first | exact trivial | exact rfl | refine And.intro ?_ ?_ | ((conv=>whnf); first | exact trivial | exact rfl | refine And.intro ?_ ?_ | omega))
  conv=>whnf
  refine ⟨fun hc => absurd hc (by simp), fun hc => ?_⟩
  conv=>whnf
  refine call_step q3 rfl rfl ?_
  conv=>whnf
  refine ⟨?_, ?_, ?_⟩
  iterate 2 · repeat' (first | exact trivial | exact rfl | refine And.intro ?_ ?_ | ((conv=>whnf); first | exact trivial | exact rfl | refine And.intro ?_ ?_ | omega))
  conv=>whnf
  refine call_step s3 rfl rfl ?_
  conv=>whnf
  refine ⟨?_, ?_, ?_⟩
  iterate 2 · repeat' (first | exact trivial | exact rfl | refine And.intro ?_ ?_ | ((conv=>whnf); first | exact trivial | exact rfl | refine And.intro ?_ ?_ | omega))
  conv=>whnf
  refine ⟨fun hc => absurd hc (by simp), fun hc => ?_⟩
  conv=>whnf
  refine loop_step tB_ok (G := Nat) 0 [] (fun i => [(170, iv .i64 i), (22, iv .i64 (plF (os.take i) o))]) (fun _ => []) (fun i => i ≤ os.length) (fun i => os.length - i) ?_
  conv=>whnf
  refine ⟨⟨0, Nat.zero_le _, ?_⟩, ?_⟩
  · conv=>whnf
    repeat' (first | exact trivial | exact rfl | refine And.intro ?_ ?_ | ((conv=>whnf); first | exact trivial | exact rfl | refine And.intro ?_ ?_ | omega))
  rintro i hi ρ1 t1 hρ1
  conv=>whnf
  refine ⟨fun hc => ?_, fun hc => ?_⟩
  · have hlt : i < os.length := by simpa using hc
    have hst := plF_step hod (x := o) hlt
    generalize plF (os.take i) o = at0 at *
    conv=>whnf
    refine ⟨i, rfl, hlt, hlt, ?_⟩
    conv=>whnf
    refine ⟨fun hc => ?_, fun hc => ?_⟩
    · have h1 : os[i] = o := eqThg_t (show eqThg os[i] o = true from hc)
      rw [if_pos h1] at hst
      conv=>whnf
      refine ⟨_, wrapId ⟨by omega, by omega⟩, ?_⟩
      refine ⟨i + 1, hlt, by show os.length - (i + 1) < os.length - i; omega, ?_⟩
      try dsimp only
      rw [hst]
      conv=>whnf
      refine ⟨rfl, ?_⟩
      conv=>whnf
      repeat' (first | exact trivial | exact rfl | refine And.intro ?_ ?_ | ((conv=>whnf); first | exact trivial | exact rfl | refine And.intro ?_ ?_ | omega))
    · have h1 : ¬ os[i] = o := fun he => by
        have h2 : eqThg os[i] o = false := hc
        rw [he, eqThg_r] at h2; cases h2
      rw [if_neg h1] at hst
      conv=>whnf
      refine ⟨_, wrapId ⟨by omega, by omega⟩, ?_⟩
      refine ⟨i + 1, hlt, by show os.length - (i + 1) < os.length - i; omega, ?_⟩
      try dsimp only
      rw [hst]
      conv=>whnf
      refine ⟨rfl, ?_⟩
      conv=>whnf
      repeat' (first | exact trivial | exact rfl | refine And.intro ?_ ?_ | ((conv=>whnf); first | exact trivial | exact rfl | refine And.intro ?_ ?_ | omega))
  have hie : i = os.length := by simp at hc; omega
  subst hie
  rw [List.take_length]
  conv=>whnf
  refine loop_step tB_ok (G := Nat) 0 [] (fun i => [(183, iv .i64 i), (23, iv .i64 (locF os.length (ms.take i) m))]) (fun _ => []) (fun i => i ≤ ms.length) (fun i => ms.length - i) ?_
  conv=>whnf
  refine ⟨⟨0, Nat.zero_le _, ?_⟩, ?_⟩
  · conv=>whnf
    repeat' (first | exact trivial | exact rfl | refine And.intro ?_ ?_ | ((conv=>whnf); first | exact trivial | exact rfl | refine And.intro ?_ ?_ | omega))
  rintro i hi ρ2 t2 hρ2
  conv=>whnf
  refine ⟨fun hc => ?_, fun hc => ?_⟩
  · have hlt : i < ms.length := by simpa using hc
    have hst := locF_step hmd (n := os.length) (x := m) hlt
    generalize locF os.length (ms.take i) m = at0 at *
    conv=>whnf
    refine ⟨i, rfl, hlt, hlt, ?_⟩
    conv=>whnf
    refine ⟨fun hc => ?_, fun hc => ?_⟩
    · have h1 : ms[i] = m := eqMom_t (show eqMom ms[i] m = true from hc)
      rw [if_pos h1] at hst
      conv=>whnf
      refine ⟨(os.length : Int) + i, wrapId (z := (os.length : Int) + i) ⟨by omega, by omega⟩, ?_⟩
      conv=>whnf
      refine ⟨_, wrapId ⟨by omega, by omega⟩, ?_⟩
      refine ⟨i + 1, hlt, by show ms.length - (i + 1) < ms.length - i; omega, ?_⟩
      try dsimp only
      rw [hst]
      conv=>whnf
      refine ⟨rfl, ?_⟩
      conv=>whnf
      repeat' (first | exact trivial | exact rfl | refine And.intro ?_ ?_ | ((conv=>whnf); first | exact trivial | exact rfl | refine And.intro ?_ ?_ | omega))
    · have h1 : ¬ ms[i] = m := fun he => by
        have h2 : eqMom ms[i] m = false := hc
        rw [he, eqMom_r] at h2; cases h2
      rw [if_neg h1] at hst
      conv=>whnf
      refine ⟨_, wrapId ⟨by omega, by omega⟩, ?_⟩
      refine ⟨i + 1, hlt, by show ms.length - (i + 1) < ms.length - i; omega, ?_⟩
      try dsimp only
      rw [hst]
      conv=>whnf
      refine ⟨rfl, ?_⟩
      conv=>whnf
      repeat' (first | exact trivial | exact rfl | refine And.intro ?_ ?_ | ((conv=>whnf); first | exact trivial | exact rfl | refine And.intro ?_ ?_ | omega))
  have hie : i = ms.length := by simp at hc; omega
  subst hie
  rw [List.take_length]
  generalize locF os.length ms m = loc at *
  generalize plF os o = at0 at *
  rcases hP with ⟨a1, a2, a3⟩ | ⟨a1, a2, a3⟩
  · conv=>whnf
    refine ⟨fun hc => ?_, fun hc => absurd (of_decide_eq_false (show decide (at0 < 0) = false from hc)) (by omega)⟩
    conv=>whnf
    refine ⟨fun hc => absurd a2 (by simpa using (show (P.1 != 0) = true from hc)), fun hc => ?_⟩
    conv=>whnf
    refine ⟨fun hc => absurd a3 (by simpa using (show (P.2 != 5) = true from hc)), fun hc => ?_⟩
    conv=>whnf
    refine ⟨fun hc => absurd (of_decide_eq_true (show decide (0 ≤ at0) = true from hc)) (by omega), fun hc => ?_⟩
    conv=>whnf
    refine call_step sanity_t rfl rfl ?_
    conv=>whnf
    refine ⟨?_, ?_, ?_⟩
    iterate 2 · repeat' (first | exact trivial | exact rfl | refine And.intro ?_ ?_ | ((conv=>whnf); first | exact trivial | exact rfl | refine And.intro ?_ ?_ | omega))
    conv=>whnf
    refine ⟨fun hc => ?_, fun hc => absurd hc (by simp)⟩
    conv=>whnf
    rcases hQ with ⟨b1, b2, b3⟩ | ⟨b1, b2, b3⟩
    · refine ⟨fun hc => ?_, fun hc => absurd (of_decide_eq_false (show decide (loc < 0) = false from hc)) (by omega)⟩
      conv=>whnf
      refine ⟨fun hc => ?_, fun hc => absurd b2 (by simpa using (show (Q.1 == 0) = false from hc))⟩
      conv=>whnf
      refine ⟨fun hc => ?_, fun hc => absurd b3 (by simpa using (show (Q.2 == 5) = false from hc))⟩
      conv=>whnf
      repeat' (first | exact trivial | exact rfl | refine And.intro ?_ ?_ | ((conv=>whnf); first | exact trivial | exact rfl | refine And.intro ?_ ?_ | omega))
    · refine ⟨fun hc => absurd (of_decide_eq_true (show decide (loc < 0) = true from hc)) (by omega), fun hc => ?_⟩
      conv=>whnf
      refine ⟨fun hc => ?_, fun hc => absurd (of_decide_eq_false (show decide (0 ≤ loc) = false from hc)) (by omega)⟩
      conv=>whnf
      refine ⟨fun hc => ?_, fun hc => absurd b2 (by simpa using (show (Q.1 == loc) = false from hc))⟩
      conv=>whnf
      exact ⟨(by rw [b3]; rfl : (Q.2 == 0) = true), trivial⟩
  · conv=>whnf
    refine ⟨fun hc => absurd (of_decide_eq_true (show decide (at0 < 0) = true from hc)) (by omega), fun hc => ?_⟩
    conv=>whnf
    refine ⟨fun hc => ?_, fun hc => absurd (of_decide_eq_false (show decide (0 ≤ at0) = false from hc)) (by omega)⟩
    conv=>whnf
    refine ⟨fun hc => absurd a2 (by simpa using (show (P.1 != at0) = true from hc)), fun hc => ?_⟩
    conv=>whnf
    refine ⟨fun hc => absurd a3 (by simpa using (show (P.2 != 0) = true from hc)), fun hc => ?_⟩
    conv=>whnf
    refine call_step sanity_t rfl rfl ?_
    conv=>whnf
    refine ⟨?_, ?_, ?_⟩
    iterate 2 · repeat' (first | exact trivial | exact rfl | refine And.intro ?_ ?_ | ((conv=>whnf); first | exact trivial | exact rfl | refine And.intro ?_ ?_ | omega))
    conv=>whnf
    refine ⟨fun hc => ?_, fun hc => absurd hc (by simp)⟩
    conv=>whnf
    rcases hQ with ⟨b1, b2, b3⟩ | ⟨b1, b2, b3⟩
    · refine ⟨fun hc => ?_, fun hc => absurd (of_decide_eq_false (show decide (loc < 0) = false from hc)) (by omega)⟩
      conv=>whnf
      refine ⟨fun hc => ?_, fun hc => absurd b2 (by simpa using (show (Q.1 == 0) = false from hc))⟩
      conv=>whnf
      refine ⟨fun hc => ?_, fun hc => absurd b3 (by simpa using (show (Q.2 == 5) = false from hc))⟩
      conv=>whnf
      repeat' (first | exact trivial | exact rfl | refine And.intro ?_ ?_ | ((conv=>whnf); first | exact trivial | exact rfl | refine And.intro ?_ ?_ | omega))
    · refine ⟨fun hc => absurd (of_decide_eq_true (show decide (loc < 0) = true from hc)) (by omega), fun hc => ?_⟩
      conv=>whnf
      refine ⟨fun hc => ?_, fun hc => absurd (of_decide_eq_false (show decide (0 ≤ loc) = false from hc)) (by omega)⟩
      conv=>whnf
      refine ⟨fun hc => ?_, fun hc => absurd b2 (by simpa using (show (Q.1 == loc) = false from hc))⟩
      conv=>whnf
      exact ⟨(by rw [b3]; rfl : (Q.2 == 0) = true), trivial⟩

end Go.Proofs

